/- Package auditor: caught, and the closure that recovers. -/
import Derived.Test.YtkfmmiekajgdjaaGreatMa43
import Derived.Defers
import Derived.Recover
namespace Go.Proofs.YtkfmmiekajgdjaaGreat
open Go.RowKit
attribute [local go_sem] Oper.semAt_some

set_option maxHeartbeats 4000000 in
theorem caughtA_no (p : Addr) (w : World) : Calls Tryz.prog 44 #[.nilIface, .pointer (some p)] w (fun e w' => e = .returned (.tuple #[]) ∧ w' = w) := by
  go_enter Tryz.func44, Tryz.ntmps44
  go_wp2
  refine bodyPost_ret (results_none rfl _ _ _) rfl ?_
  exact ⟨rfl, rfl⟩
set_option maxRecDepth 100000 in
set_option maxHeartbeats 4000000 in
theorem caughtA_some (b : Nat) (x part : Int) (w : World) (hc : w.cell? ⟨b, 0, none⟩ = some (.int .i64 x)) (hz : w.frozen? ⟨b, 0, none⟩ = false) : Calls Tryz.prog 44 #[.iface 154 (.agg #[.int .i64 part]), .pointer (some ⟨b, 0, none⟩)] w (fun e w' => e = .returned (.tuple #[]) ∧ w' = (w.setCell ⟨b, 0, none⟩ (.int .i64 part)).alloc (.cells #[.int .i64 part] 154)) := by
  have hlt : b < w.heap.size := cell_lt hc
  have hne : ¬ b = w.heap.size := by omega
  have q0 : ∀ o, (w.alloc o).cell? ⟨b, 0, none⟩ = some (.int .i64 x) := fun o => cell_kept (below_alloc (Below.refl _ _) o) hc
  go_enter Tryz.func44, Tryz.ntmps44
  have hta : ∀ W, (Instr.typeAssert (.iface 154 (.agg #[.int .i64 part])) 20 154 true).run Tryz.prog W = .ok (.tuple #[.agg #[.int .i64 part], .bool true]) W := fun W => by kernel_rfl
  go_wp2
  go_end0
  exact ⟨rfl, rfl⟩
set_option maxHeartbeats 4000000 in
theorem catchA_idle (p : Addr) (w : World) :
    CallsD Tryz.prog 43 #[.pointer (some p)] .returning w fun e u' w' => e = .returned (.tuple #[]) ∧ u' = .returning ∧ w' = w := by
  refine callsD_of_wpS Tryz.func43 rfl fun c₀ cs hu => ?_
  apply wpS_region
  simp [wpOpsS, go_sem, recoverD, hu, Tryz.ntmps43]
  refine (caughtA_no p w).mono ?_
  rintro _ _ ⟨rfl, rfl⟩
  cases c₀
  simp_all [bodyPostS, results, Tryz.results43]
set_option maxHeartbeats 4000000 in
theorem catchA_panic (b : Nat) (x part : Int) (older : List PanicEntry) (w : World) (hc : w.cell? ⟨b, 0, none⟩ = some (.int .i64 x)) (hz : w.frozen? ⟨b, 0, none⟩ = false) :
    CallsD Tryz.prog 43 #[.pointer (some ⟨b, 0, none⟩)] (.panicking ({ v := .iface 154 (.agg #[.int .i64 part]), recovered := false } :: older)) w fun e u' w' =>
      e = .returned (.tuple #[]) ∧ u' = .panicking ({ v := .iface 154 (.agg #[.int .i64 part]), recovered := true } :: older) ∧ w' = (w.setCell ⟨b, 0, none⟩ (.int .i64 part)).alloc (.cells #[.int .i64 part] 154) := by
  refine callsD_of_wpS Tryz.func43 rfl fun c₀ cs hu => ?_
  apply wpS_region
  simp [wpOpsS, go_sem, recoverD, hu, Tryz.ntmps43]
  refine (caughtA_some b x part w hc hz).mono ?_
  rintro _ _ ⟨rfl, rfl⟩
  cases c₀
  simp_all [bodyPostS, results, Tryz.results43]
end Go.Proofs.YtkfmmiekajgdjaaGreat
