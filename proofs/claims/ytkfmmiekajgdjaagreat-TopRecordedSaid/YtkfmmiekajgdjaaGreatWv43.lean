/- Package meter: one meter that counts forward. -/
import Derived.Test.YtkfmmiekajgdjaaGreatTBase
import Derived.Deep.Cut
import Derived.Deep.CutRange
import Derived.Deep.DeepCutAuto
namespace Go.Proofs.YtkfmmiekajgdjaaGreat
open Go.RowKit
attribute [local go_sem] Oper.semAt_some

@[reducible] def metV (r : Int) : Value := .agg #[.int .i64 1, .int .i64 r, .bool false]
set_option maxHeartbeats 4000000 in
theorem upTo_one (most x : Int) (b : Nat) (w : World) (hc : w.cell? ⟨b, 0, none⟩ = some (.int .i64 x)) (h0 : 0 ≤ x) (h1 : x ≤ most) : Calls Tryz.prog 34 #[.int .i64 most, .slice (some ⟨b, 0, none⟩) 1 1] w (fun e w' => e = .returned (.bool true) ∧ w = w') := by
  have d0 : decide (x < 0) = false := decide_eq_false (by omega)
  have d1 : decide (most < x) = false := decide_eq_false (by omega)
  clear h0 h1
  go_enter Tryz.func34, Tryz.ntmps34
  go_wp2
  go_loop [9] (fun i => ∃ k : Nat, k ≤ 1 ∧ i = .int .i64 k) (fun i => 1 - (intOf i).toNat)
  case atStart => exact ⟨0, by omega, rfl⟩
  case round =>
    obtain ⟨k, hk, rfl⟩ := hrel
    by_cases hlt : k < 1
    · obtain rfl : k = 0 := by omega
      go_wp2
      go_round
      case rel => exact ⟨1, by omega, rfl⟩
      case measure => simp [intOf]
    · obtain rfl : k = 1 := by omega
      go_wp2
      go_ret
      exact ⟨rfl, rfl⟩
set_option maxHeartbeats 4000000 in
theorem mvalid_any (r : Int) (w : World) (h0 : 0 ≤ r) (h1 : r ≤ 1000000000000000) : Calls Tryz.prog 22 #[metV r] w (Ret (.bool true) w) := by
  have d0 : decide (-1000000000000000 ≤ r) = true := decide_eq_true (by omega)
  have d1 : decide (r ≤ 1000000000000000) = true := decide_eq_true (by omega)
  clear h0 h1
  go_enter Tryz.func22, Tryz.ntmps22
  go_wp2_with fail
  refine (upTo_one 1000000 1 _ _ (by go_simp) (by omega) (by omega)).mono ?_
  rintro _ _ ⟨rfl, rfl⟩
  go_wp2
  go_ret
  exact ⟨rfl, by go_grown⟩
set_option maxHeartbeats 4000000 in
theorem forward_any (r x : Int) (g : Nat) (w : World) (hb : Blk w g 105 #[.int .i64 1, .int .i64 r, .bool false]) (h0 : 0 ≤ r) (h1 : r ≤ 900000000000000) (x0 : 0 ≤ x) (x1 : x ≤ 10000000000) : Calls Tryz.prog 35 #[.pointer (some ⟨g, 0, none⟩), .int .i64 x] w (fun e w' => e = .returned (.tuple #[]) ∧ w' = w.setCell ⟨g, 1, none⟩ (.int .i64 (r + x))) := by
  have c1 : w.cell? ⟨g, 1, none⟩ = some (.int .i64 r) := hb.cell 1
  have z1 := hb.frozen 1
  have hw : IntKind.i64.wrap (r + x) = r + x := IntWalk.i64_in _ (by omega)
  clear hb
  go_enter Tryz.func35, Tryz.ntmps35
  go_wp2
  go_end0
  exact ⟨rfl, rfl⟩
set_option maxRecDepth 100000 in
set_option maxHeartbeats 8000000 in
theorem Count_any (r a p : Int) (w : World) (h0 : 0 ≤ r) (h1 : r ≤ 900000000000000) (a0 : 0 ≤ a) (a1 : a ≤ 80) (p0 : 0 ≤ p) (p1 : p ≤ 3) : Calls Tryz.prog 20 #[metV r, .int .i64 a, .int .i64 p] w (Ret (.tuple #[metV (r + 2300 * a * p), .int .i64 0]) w) := by
  have HM := Lib.hid (show 0 ≤ 2300 * a * p ∧ 2300 * a * p ≤ 552000 from by
    have h := Int.mul_nonneg (show 0 ≤ 2300 * a by omega) p0
    have h2 := Int.mul_le_mul (show 2300 * a ≤ 184000 by omega) p1 p0 (by omega)
    omega)
  have hm0 := HM.out.1
  have hm1 := HM.out.2
  have hw1 : IntKind.i64.wrap (2300 * a) = 2300 * a := IntWalk.i64_in _ (by omega)
  have hw2 : IntKind.i64.wrap (2300 * a * p) = 2300 * a * p := IntWalk.i64_in _ (by omega)
  obtain ⟨X, hX⟩ : ∃ X, 2300 * a * p = X := ⟨_, rfl⟩
  have HX := Lib.hid hX
  rw [hX] at hm0 hm1 hw2 ⊢
  clear hX HM
  have hw3 : IntKind.i64.wrap (2300 * a * p) = X := by rw [HX.out]; exact hw2
  clear hw2
  have hmf : ∀ (fn : Fn) (first cap : Array Value) (w : World), (Instr.makeFunc fn first cap).run Tryz.prog w = .ok (.func fn first cap) w := fun _ _ _ _ => rfl
  go_enter Tryz.func20, Tryz.ntmps20
  go_upto_region 1 with (fail)
  obtain ⟨wq, hwq⟩ : ∃ W, W = w.alloc (.cells #[.int .i64 1, .int .i64 r, .bool false] 43) := ⟨_, rfl⟩
  obtain ⟨W1, hW1⟩ : ∃ W, W = wq.alloc (.cells #[.int .i64 0, .int .i64 0, .bool false] 43) := ⟨_, rfl⟩
  have hsq : wq.heap.size = w.heap.size + 1 := by rw [hwq, World.size_alloc]
  have HQ := Lib.hid (show Blk W1 w.heap.size 43 #[.int .i64 1, .int .i64 r, .bool false] by rw [hW1]; refine Blk.alloc ?_ _; rw [hwq]; exact Blk.new _ _ _)
  have HP := Lib.hid (show Blk W1 (w.heap.size + 1) 43 #[.int .i64 0, .int .i64 0, .bool false] by rw [hW1, ← hsq]; exact Blk.new _ _ _)
  have HB := Lib.hid (show Below w.heap.size w W1 by rw [hW1, hwq]; exact below_alloc (below_alloc (Below.refl _ _) _) _)
  have hS1 : W1 = (w.alloc (.cells #[.int .i64 1, .int .i64 r, .bool false] 43)).alloc (.cells #[.int .i64 0, .int .i64 0, .bool false] 43) := by rw [hW1, hwq]
  obtain ⟨P, hP⟩ : ∃ P, P = w.heap.size + 1 := ⟨_, rfl⟩
  obtain ⟨Q, hQ⟩ : ∃ Q, Q = w.heap.size := ⟨_, rfl⟩
  have HGP := Lib.hid (show P = Q + 1 ∧ Q = w.heap.size from ⟨by rw [hP, hQ], hQ⟩)
  rw [← hS1]
  rw [← hP] at HP ⊢
  rw [← hQ] at HQ ⊢
  clear hP hQ hS1 hW1 hwq hsq
  have q0 : W1.cell? ⟨Q, 0, none⟩ = some (.int .i64 1) := HQ.out.cell 0
  have q1 : W1.cell? ⟨Q, 1, none⟩ = some (.int .i64 r) := HQ.out.cell 1
  have q2 : W1.cell? ⟨Q, 2, none⟩ = some (.bool false) := HQ.out.cell 2
  go_wp2_with fail
  refine (mvalid_any r W1 h0 (by omega)).mono ?_
  rintro _ W2 ⟨rfl, hb⟩
  replace HQ := Lib.hid (HQ.out.later hb)
  replace HP := Lib.hid (HP.out.later hb)
  replace HB := Lib.hid (below_step HB.out hb)
  clear hb q0 q1 q2
  go_wp2_with fail
  refine (upTo_one 80 a _ _ (by go_simp) a0 a1).mono ?_
  rintro _ _ ⟨rfl, rfl⟩
  go_wp2_with fail
  refine (upTo_one 3 p _ _ (by go_simp) p0 p1).mono ?_
  rintro _ _ ⟨rfl, rfl⟩
  go_upto_region 3 with (fail)
  obtain ⟨W3, hW3⟩ : ∃ W, W = (W2.alloc (.cells #[.int .i64 a] 3)).alloc (.cells #[.int .i64 p] 3) := ⟨_, rfl⟩
  replace HQ := Lib.hid (show Blk W3 Q 43 #[.int .i64 1, .int .i64 r, .bool false] by rw [hW3]; exact (HQ.out.alloc _).alloc _)
  replace HP := Lib.hid (show Blk W3 P 43 #[.int .i64 0, .int .i64 0, .bool false] by rw [hW3]; exact (HP.out.alloc _).alloc _)
  replace HB := Lib.hid (show Below w.heap.size w W3 by rw [hW3]; exact below_alloc (below_alloc HB.out _) _)
  rw [← hW3]
  clear hW3
  have q0 : W3.cell? ⟨Q, 0, none⟩ = some (.int .i64 1) := HQ.out.cell 0
  have q1 : W3.cell? ⟨Q, 1, none⟩ = some (.int .i64 r) := HQ.out.cell 1
  have q2 : W3.cell? ⟨Q, 2, none⟩ = some (.bool false) := HQ.out.cell 2
  have q3 : ∀ o, (W3.alloc o).cell? ⟨Q, 2, none⟩ = some (.bool false) := fun o => (HQ.out.alloc o).cell 2
  go_upto_region 7 with (fail)
  obtain ⟨W4, hW4⟩ : ∃ W, W = W3.alloc (.cells #[.int .i64 1, .int .i64 r, .bool false] 105) := ⟨_, rfl⟩
  have HC := Lib.hid (show Blk W4 W3.heap.size 105 #[.int .i64 1, .int .i64 r, .bool false] by rw [hW4]; exact Blk.new _ _ _)
  replace HP := Lib.hid (show Blk W4 P 43 #[.int .i64 0, .int .i64 0, .bool false] by rw [hW4]; exact HP.out.alloc _)
  have HPC := Lib.hid (show P ≠ W3.heap.size ∧ w.heap.size ≤ W3.heap.size from ⟨by have h1 := HGP.out; have h2 := HQ.out.lt; have h3 := HP.out.lt; rw [hW4, World.size_alloc] at h3; intro h4; have h5 := HB.out.size; have h6 := HP.out; rw [hW4, h4] at h6; have h7 := Blk.new W3 105 #[.int .i64 1, .int .i64 r, .bool false]; unfold Blk at h6 h7; rw [h6] at h7; simp at h7, HB.out.size⟩)
  replace HB := Lib.hid (show Below w.heap.size w W4 by rw [hW4]; exact below_alloc HB.out _)
  obtain ⟨C, hC⟩ : ∃ C, C = W3.heap.size := ⟨_, rfl⟩
  rw [← hC] at HC HPC
  rw [← hW4]
  try rw [← hC]
  clear hC hW4 q0 q1 q2 q3 HQ
  go_wp2_with fail
  refine (forward_any r X C W4 HC.out h0 h1 hm0 (by omega)).mono ?_
  rintro _ W5 ⟨rfl, hW5⟩
  replace HC := Lib.hid (show Blk W5 C 105 #[.int .i64 1, .int .i64 (r + X), .bool false] by rw [hW5]; exact HC.out.set 1 _)
  replace HP := Lib.hid (show Blk W5 P 43 #[.int .i64 0, .int .i64 0, .bool false] by rw [hW5]; exact HP.out.other HPC.out.1 _)
  replace HB := Lib.hid (show Below w.heap.size w W5 by rw [hW5]; exact HB.out.setCell (p := ⟨C, 1, none⟩) HPC.out.2 _)
  clear hW5
  have q0 : W5.cell? ⟨C, 0, none⟩ = some (.int .i64 1) := HC.out.cell 0
  have q1 : W5.cell? ⟨C, 1, none⟩ = some (.int .i64 (r + X)) := HC.out.cell 1
  have q2 : W5.cell? ⟨C, 2, none⟩ = some (.bool false) := HC.out.cell 2
  go_wp2_with fail
  refine (mvalid_any (r + X) W5 (by omega) (by omega)).mono ?_
  rintro _ W6 ⟨rfl, hb⟩
  replace HC := Lib.hid (HC.out.later hb)
  replace HP := Lib.hid (HP.out.later hb)
  replace HB := Lib.hid (below_step HB.out hb)
  clear hb q0 q1 q2
  have q0 : W6.cell? ⟨C, 0, none⟩ = some (.int .i64 1) := HC.out.cell 0
  have q1 : W6.cell? ⟨C, 1, none⟩ = some (.int .i64 (r + X)) := HC.out.cell 1
  have q2 : W6.cell? ⟨C, 2, none⟩ = some (.bool false) := HC.out.cell 2
  have p0 : W6.cell? ⟨P, 0, none⟩ = some (.int .i64 0) := HP.out.cell 0
  have p1 : W6.cell? ⟨P, 1, none⟩ = some (.int .i64 0) := HP.out.cell 1
  have p2 : W6.cell? ⟨P, 2, none⟩ = some (.bool false) := HP.out.cell 2
  have z0 := HP.out.frozen 0
  have z1 := HP.out.frozen 1
  have z2 := HP.out.frozen 2
  go_wp2
  have HP7 := Lib.hid (((HP.out.set 0 (.int .i64 1)).set 1 (.int .i64 (r + X))).set 2 (.bool false))
  have HB7 := Lib.hid (show Below w.heap.size w (((W6.setCell ⟨P, 0, none⟩ (.int .i64 1)).setCell ⟨P, 1, none⟩ (.int .i64 (r + X))).setCell ⟨P, 2, none⟩ (.bool false)) by
    have hP : w.heap.size ≤ P := by have := HGP.out; omega
    exact ((HB.out.setCell (p := ⟨P, 0, none⟩) hP _).setCell (p := ⟨P, 1, none⟩) hP _).setCell (p := ⟨P, 2, none⟩) hP _)
  clear q0 q1 q2 p0 p1 p2 z0 z1 z2
  generalize (((W6.setCell ⟨P, 0, none⟩ (.int .i64 1)).setCell ⟨P, 1, none⟩ (.int .i64 (r + X))).setCell ⟨P, 2, none⟩ (.bool false)) = W7 at HP7 HB7 ⊢
  have q0 : W7.cell? ⟨P, 0, none⟩ = some (.int .i64 1) := HP7.out.cell 0
  have q1 : W7.cell? ⟨P, 1, none⟩ = some (.int .i64 (r + X)) := HP7.out.cell 1
  have q2 : W7.cell? ⟨P, 2, none⟩ = some (.bool false) := HP7.out.cell 2
  exact bodyPost_ret (v := .tuple #[metV (r + X), .int .i64 0]) (by simp [results, Tryz.results20, go_sem, q0, q1, q2]) rfl ⟨rfl, HB7.out⟩
set_option maxHeartbeats 8000000 in
theorem Energy_met (r : Int) (w : World) (h0 : 0 ≤ r) (h1 : r ≤ 900000000000000) : Calls Tryz.prog 9 #[metV 0, metV r] w (Ret (.tuple #[.int .i64 (r / 3600), .int .i64 0]) w) := by
  have d0 : decide (r < 0) = false := decide_eq_false (by omega)
  have hq : r.tdiv 3600 = r / 3600 := Int.tdiv_eq_ediv_of_nonneg h0
  have hq1 : IntKind.i64.wrap (r / 3600) = r / 3600 := IntWalk.i64_in _ (by omega)
  go_enter Tryz.func9, Tryz.ntmps9
  go_upto_region 1 with (fail)
  obtain ⟨wq, hwq⟩ : ∃ W, W = w.alloc (.cells #[.int .i64 1, .int .i64 0, .bool false] 43) := ⟨_, rfl⟩
  obtain ⟨W1, hW1⟩ : ∃ W, W = wq.alloc (.cells #[.int .i64 1, .int .i64 r, .bool false] 43) := ⟨_, rfl⟩
  have hsq : wq.heap.size = w.heap.size + 1 := by rw [hwq, World.size_alloc]
  have HQ := Lib.hid (show Blk W1 w.heap.size 43 #[.int .i64 1, .int .i64 0, .bool false] by rw [hW1]; refine Blk.alloc ?_ _; rw [hwq]; exact Blk.new _ _ _)
  have HP := Lib.hid (show Blk W1 (w.heap.size + 1) 43 #[.int .i64 1, .int .i64 r, .bool false] by rw [hW1, ← hsq]; exact Blk.new _ _ _)
  have HB := Lib.hid (show Below w.heap.size w W1 by rw [hW1, hwq]; exact below_alloc (below_alloc (Below.refl _ _) _) _)
  have hS1 : W1 = (w.alloc (.cells #[.int .i64 1, .int .i64 0, .bool false] 43)).alloc (.cells #[.int .i64 1, .int .i64 r, .bool false] 43) := by rw [hW1, hwq]
  obtain ⟨P, hP⟩ : ∃ P, P = w.heap.size + 1 := ⟨_, rfl⟩
  obtain ⟨Q, hQ⟩ : ∃ Q, Q = w.heap.size := ⟨_, rfl⟩
  rw [← hS1]
  rw [← hP] at HP ⊢
  rw [← hQ] at HQ ⊢
  clear hP hQ hS1 hW1 hwq hsq
  have q0 : W1.cell? ⟨Q, 0, none⟩ = some (.int .i64 1) := HQ.out.cell 0
  have q1 : W1.cell? ⟨Q, 1, none⟩ = some (.int .i64 0) := HQ.out.cell 1
  have q2 : W1.cell? ⟨Q, 2, none⟩ = some (.bool false) := HQ.out.cell 2
  go_wp2_with fail
  refine (mvalid_any 0 W1 (by omega) (by omega)).mono ?_
  rintro _ W2 ⟨rfl, hb⟩
  replace HQ := Lib.hid (HQ.out.later hb)
  replace HP := Lib.hid (HP.out.later hb)
  replace HB := Lib.hid (below_step HB.out hb)
  clear hb q0 q1 q2
  have p0 : W2.cell? ⟨P, 0, none⟩ = some (.int .i64 1) := HP.out.cell 0
  have p1 : W2.cell? ⟨P, 1, none⟩ = some (.int .i64 r) := HP.out.cell 1
  have p2 : W2.cell? ⟨P, 2, none⟩ = some (.bool false) := HP.out.cell 2
  go_wp2_with fail
  refine (mvalid_any r W2 (by omega) (by omega)).mono ?_
  rintro _ W3 ⟨rfl, hb⟩
  replace HQ := Lib.hid (HQ.out.later hb)
  replace HP := Lib.hid (HP.out.later hb)
  replace HB := Lib.hid (below_step HB.out hb)
  clear hb p0 p1 p2
  have p0 : W3.cell? ⟨P, 0, none⟩ = some (.int .i64 1) := HP.out.cell 0
  have p1 : W3.cell? ⟨P, 1, none⟩ = some (.int .i64 r) := HP.out.cell 1
  have q0 : W3.cell? ⟨Q, 0, none⟩ = some (.int .i64 1) := HQ.out.cell 0
  have q1 : W3.cell? ⟨Q, 1, none⟩ = some (.int .i64 0) := HQ.out.cell 1
  go_wp2
  go_ret2
  exact ⟨rfl, HB.out⟩
end Go.Proofs.YtkfmmiekajgdjaaGreat
