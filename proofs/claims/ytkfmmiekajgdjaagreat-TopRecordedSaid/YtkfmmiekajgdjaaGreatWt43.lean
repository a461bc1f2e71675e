/- Package money: the small functions, and the closures that recover. -/
import Derived.Test.YtkfmmiekajgdjaaGreatTBase
import Derived.Defers
import Derived.Recover
namespace Go.Proofs.YtkfmmiekajgdjaaGreat
open Go.RowKit
attribute [local go_sem] Oper.semAt_some

@[reducible] def moneyP (err : Int) : PanicEntry := { v := .iface 169 (.agg #[.int .i64 err]), recovered := false }
set_option maxHeartbeats 4000000 in
theorem mneed_ok (err : Int) (w : World) : Calls Tryz.prog 92 #[.bool true, .int .i64 err] w (fun e w' => e = .returned (.tuple #[]) ∧ w = w') := by
  go_enter Tryz.func92, Tryz.ntmps92
  go_wp2
  go_end0
  exact ⟨rfl, rfl⟩
set_option maxHeartbeats 4000000 in
theorem mneed_no (err : Int) (w : World) : Calls Tryz.prog 92 #[.bool false, .int .i64 err] w (fun e w' => e = .panicked [moneyP err] ∧ w = w') := by
  go_enter Tryz.func92, Tryz.ntmps92
  go_wp2
  exact ⟨rfl, rfl, rfl⟩
set_option maxHeartbeats 4000000 in
theorem minside_any (n a b : Int) (w : World) : Calls Tryz.prog 94 #[.int .i64 n, .int .i64 a, .int .i64 b] w (fun e w' => e = .returned (.bool (decide (a ≤ n) && decide (n ≤ b))) ∧ w = w') := by
  go_enter Tryz.func94, Tryz.ntmps94
  obtain ⟨d, hd⟩ : ∃ d, decide (a ≤ n) = d := ⟨_, rfl⟩
  rw [hd]
  cases d with
  | true =>
    go_wp2
    go_ret
    exact ⟨rfl, rfl⟩
  | false =>
    go_wp2
    go_ret
    exact ⟨rfl, rfl⟩
set_option maxHeartbeats 4000000 in
theorem isAmount_any (n : Int) (w : World) : Calls Tryz.prog 93 #[.int .i64 n] w (fun e w' => e = .returned (.bool (decide (0 ≤ n) && decide (n ≤ 1000000000))) ∧ w = w') := by
  go_enter Tryz.func93, Tryz.ntmps93
  go_wp2_with fail
  refine (minside_any _ _ _ w).mono ?_
  rintro _ _ ⟨rfl, rfl⟩
  go_wp2
  go_ret
  exact ⟨rfl, rfl⟩
set_option maxHeartbeats 4000000 in
theorem half_any (n b : Int) (w : World) (n0 : 0 ≤ n) (n1 : n ≤ 1000000000000000) (b0 : 1 ≤ b) (b1 : b ≤ 1000000000) : Calls Tryz.prog 96 #[.int .i64 n, .int .i64 b] w (fun e w' => e = .returned (.int .i64 ((2 * n + b) / (2 * b))) ∧ w = w') := by
  have hne : ¬ 2 * b = 0 := by omega
  have h1 : IntKind.i64.wrap (2 * n) = 2 * n := IntWalk.i64_in _ (by omega)
  have h2 : IntKind.i64.wrap (2 * n + b) = 2 * n + b := IntWalk.i64_in _ (by omega)
  have h3 : IntKind.i64.wrap (2 * b) = 2 * b := IntWalk.i64_in _ (by omega)
  have h4 : (2 * n + b).tdiv (2 * b) = (2 * n + b) / (2 * b) := Int.tdiv_eq_ediv_of_nonneg (by omega)
  have h5 : 0 ≤ (2 * n + b) / (2 * b) := Int.ediv_nonneg (by omega) (by omega)
  have h6 : (2 * n + b) / (2 * b) ≤ 2 * n + b := Int.ediv_le_self _ (by omega)
  have h7 : IntKind.i64.wrap ((2 * n + b) / (2 * b)) = (2 * n + b) / (2 * b) := IntWalk.i64_in _ (by omega)
  go_enter Tryz.func96, Tryz.ntmps96
  go_wp2
  go_ret
  exact ⟨rfl, rfl⟩
set_option maxHeartbeats 4000000 in
theorem checked_ok (n : Int) (w : World) (n0 : 0 ≤ n) (n1 : n ≤ 1000000000) : Calls Tryz.prog 95 #[.int .i64 n] w (fun e w' => e = .returned (.int .i64 n) ∧ w = w') := by
  have hd : (decide (0 ≤ n) && decide (n ≤ 1000000000)) = true := by simp; omega
  go_enter Tryz.func95, Tryz.ntmps95
  go_wp2_with fail
  refine (isAmount_any n w).mono ?_
  rintro _ _ ⟨rfl, rfl⟩
  rw [hd]
  go_wp2_with fail
  refine (mneed_ok 3 w).mono ?_
  rintro _ _ ⟨rfl, rfl⟩
  clear hd
  go_wp2
  go_ret
  exact ⟨rfl, rfl⟩
set_option maxHeartbeats 4000000 in
theorem checked_no (n : Int) (w : World) (n1 : 1000000000 < n) : Calls Tryz.prog 95 #[.int .i64 n] w (fun e w' => e = .panicked [moneyP 3] ∧ w = w') := by
  have hd : (decide (0 ≤ n) && decide (n ≤ 1000000000)) = false := by simp; omega
  go_enter Tryz.func95, Tryz.ntmps95
  go_wp2_with fail
  refine (isAmount_any n w).mono ?_
  rintro _ _ ⟨rfl, rfl⟩
  rw [hd]
  go_wp2_with fail
  refine (mneed_no 3 w).mono ?_
  rintro _ _ ⟨rfl, rfl⟩
  go_wp2
  exact ⟨rfl, rfl, rfl⟩
set_option maxHeartbeats 4000000 in
theorem mcaught_no (p : Addr) (w : World) : Calls Tryz.prog 91 #[.nilIface, .pointer (some p)] w (fun e w' => e = .returned (.tuple #[]) ∧ w' = w) := by
  go_enter Tryz.func91, Tryz.ntmps91
  go_wp2
  refine bodyPost_ret (results_none rfl _ _ _) rfl ?_
  exact ⟨rfl, rfl⟩
set_option maxRecDepth 100000 in
set_option maxHeartbeats 4000000 in
theorem mcaught_some (b : Nat) (x err : Int) (w : World) (hc : w.cell? ⟨b, 0, none⟩ = some (.int .i64 x)) (hz : w.frozen? ⟨b, 0, none⟩ = false) : Calls Tryz.prog 91 #[.iface 169 (.agg #[.int .i64 err]), .pointer (some ⟨b, 0, none⟩)] w (fun e w' => e = .returned (.tuple #[]) ∧ w' = (w.setCell ⟨b, 0, none⟩ (.int .i64 err)).alloc (.cells #[.int .i64 err] 169)) := by
  have hlt : b < w.heap.size := cell_lt hc
  have hne : ¬ b = w.heap.size := by omega
  have q0 : ∀ o, (w.alloc o).cell? ⟨b, 0, none⟩ = some (.int .i64 x) := fun o => cell_kept (below_alloc (Below.refl _ _) o) hc
  go_enter Tryz.func91, Tryz.ntmps91
  have hta : ∀ W, (Instr.typeAssert (.iface 169 (.agg #[.int .i64 err])) 20 169 true).run Tryz.prog W = .ok (.tuple #[.agg #[.int .i64 err], .bool true]) W := fun W => by kernel_rfl
  go_wp2
  go_end0
  exact ⟨rfl, rfl⟩
set_option maxHeartbeats 4000000 in
theorem times_idle (p : Addr) (w : World) :
    CallsD Tryz.prog 113 #[.pointer (some p)] .returning w fun e u' w' => e = .returned (.tuple #[]) ∧ u' = .returning ∧ w' = w := by
  refine callsD_of_wpS Tryz.func113 rfl fun c₀ cs hu => ?_
  apply wpS_region
  simp [wpOpsS, go_sem, recoverD, hu, Tryz.ntmps113]
  refine (mcaught_no p w).mono ?_
  rintro _ _ ⟨rfl, rfl⟩
  cases c₀
  simp_all [bodyPostS, results, Tryz.results113]
set_option maxHeartbeats 4000000 in
theorem times_panic (b : Nat) (x err : Int) (older : List PanicEntry) (w : World) (hc : w.cell? ⟨b, 0, none⟩ = some (.int .i64 x)) (hz : w.frozen? ⟨b, 0, none⟩ = false) :
    CallsD Tryz.prog 113 #[.pointer (some ⟨b, 0, none⟩)] (.panicking ({ v := .iface 169 (.agg #[.int .i64 err]), recovered := false } :: older)) w fun e u' w' =>
      e = .returned (.tuple #[]) ∧ u' = .panicking ({ v := .iface 169 (.agg #[.int .i64 err]), recovered := true } :: older) ∧ w' = (w.setCell ⟨b, 0, none⟩ (.int .i64 err)).alloc (.cells #[.int .i64 err] 169) := by
  refine callsD_of_wpS Tryz.func113 rfl fun c₀ cs hu => ?_
  apply wpS_region
  simp [wpOpsS, go_sem, recoverD, hu, Tryz.ntmps113]
  refine (mcaught_some b x err w hc hz).mono ?_
  rintro _ _ ⟨rfl, rfl⟩
  cases c₀
  simp_all [bodyPostS, results, Tryz.results113]
set_option maxHeartbeats 4000000 in
theorem started_idle (p : Addr) (w : World) :
    CallsD Tryz.prog 121 #[.pointer (some p)] .returning w fun e u' w' => e = .returned (.tuple #[]) ∧ u' = .returning ∧ w' = w := by
  refine callsD_of_wpS Tryz.func121 rfl fun c₀ cs hu => ?_
  apply wpS_region
  simp [wpOpsS, go_sem, recoverD, hu, Tryz.ntmps121]
  refine (mcaught_no p w).mono ?_
  rintro _ _ ⟨rfl, rfl⟩
  cases c₀
  simp_all [bodyPostS, results, Tryz.results121]
set_option maxHeartbeats 4000000 in
theorem started_panic (b : Nat) (x err : Int) (older : List PanicEntry) (w : World) (hc : w.cell? ⟨b, 0, none⟩ = some (.int .i64 x)) (hz : w.frozen? ⟨b, 0, none⟩ = false) :
    CallsD Tryz.prog 121 #[.pointer (some ⟨b, 0, none⟩)] (.panicking ({ v := .iface 169 (.agg #[.int .i64 err]), recovered := false } :: older)) w fun e u' w' =>
      e = .returned (.tuple #[]) ∧ u' = .panicking ({ v := .iface 169 (.agg #[.int .i64 err]), recovered := true } :: older) ∧ w' = (w.setCell ⟨b, 0, none⟩ (.int .i64 err)).alloc (.cells #[.int .i64 err] 169) := by
  refine callsD_of_wpS Tryz.func121 rfl fun c₀ cs hu => ?_
  apply wpS_region
  simp [wpOpsS, go_sem, recoverD, hu, Tryz.ntmps121]
  refine (mcaught_some b x err w hc hz).mono ?_
  rintro _ _ ⟨rfl, rfl⟩
  cases c₀
  simp_all [bodyPostS, results, Tryz.results121]
set_option maxHeartbeats 4000000 in
theorem tax_idle (p : Addr) (w : World) :
    CallsD Tryz.prog 90 #[.pointer (some p)] .returning w fun e u' w' => e = .returned (.tuple #[]) ∧ u' = .returning ∧ w' = w := by
  refine callsD_of_wpS Tryz.func90 rfl fun c₀ cs hu => ?_
  apply wpS_region
  simp [wpOpsS, go_sem, recoverD, hu, Tryz.ntmps90]
  refine (mcaught_no p w).mono ?_
  rintro _ _ ⟨rfl, rfl⟩
  cases c₀
  simp_all [bodyPostS, results, Tryz.results90]
set_option maxHeartbeats 4000000 in
theorem tax_panic (b : Nat) (x err : Int) (older : List PanicEntry) (w : World) (hc : w.cell? ⟨b, 0, none⟩ = some (.int .i64 x)) (hz : w.frozen? ⟨b, 0, none⟩ = false) :
    CallsD Tryz.prog 90 #[.pointer (some ⟨b, 0, none⟩)] (.panicking ({ v := .iface 169 (.agg #[.int .i64 err]), recovered := false } :: older)) w fun e u' w' =>
      e = .returned (.tuple #[]) ∧ u' = .panicking ({ v := .iface 169 (.agg #[.int .i64 err]), recovered := true } :: older) ∧ w' = (w.setCell ⟨b, 0, none⟩ (.int .i64 err)).alloc (.cells #[.int .i64 err] 169) := by
  refine callsD_of_wpS Tryz.func90 rfl fun c₀ cs hu => ?_
  apply wpS_region
  simp [wpOpsS, go_sem, recoverD, hu, Tryz.ntmps90]
  refine (mcaught_some b x err w hc hz).mono ?_
  rintro _ _ ⟨rfl, rfl⟩
  cases c₀
  simp_all [bodyPostS, results, Tryz.results90]
end Go.Proofs.YtkfmmiekajgdjaaGreat