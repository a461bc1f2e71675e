/- Package money: Times, Started, Tax. -/
import Derived.Test.YtkfmmiekajgdjaaGreatWt43
import Derived.Deep.Cut
import Derived.Deep.CutRange
import Derived.Deep.DeepCutAuto
namespace Go.Proofs.YtkfmmiekajgdjaaGreat
open Go.RowKit
attribute [local go_sem] Oper.semAt_some

/-- An amount, if it is one, or an error. -/
def MoneyOut (V : Int) (err : Int) (w : World) (e : Ending) (w' : World) : Prop := Below w.heap.size w w' ∧ e = .returned (.tuple #[.int .i64 V, .int .i64 err])
theorem nn_mul {a b A B : Int} (a0 : 0 ≤ a) (b0 : 0 ≤ b) (a1 : a ≤ A) (b1 : b ≤ B) : 0 ≤ a * b ∧ a * b ≤ A * B :=
  ⟨Int.mul_nonneg a0 b0, Int.mul_le_mul a1 b1 b0 (Int.le_trans a0 a1)⟩
set_option maxRecDepth 100000 in
set_option maxHeartbeats 8000000 in
theorem times_ok (p q : Int) (w : World) (p0 : 0 ≤ p) (p1 : p ≤ 1000000) (q0 : 0 ≤ q) (q1 : q ≤ 1000000000) (hv : (2 * p * q + 1000) / 2000 ≤ 1000000000) : Calls Tryz.prog 103 #[.int .i64 p, .int .i64 q, .int .i64 1000] w (MoneyOut ((2 * p * q + 1000) / 2000) 0 w) := by
  have hd1 : (decide (0 ≤ p) && decide (p ≤ 1000000000)) = true := by simp; omega
  have hd2 : (decide (0 ≤ q) && decide (q ≤ 1000000000)) = true := by simp; omega
  have hpq := nn_mul p0 q0 p1 q1
  have hw : IntKind.i64.wrap (p * q) = p * q := IntWalk.i64_in _ (by omega)
  have hpq0 := hpq.1
  have hpq1 := hpq.2
  clear hpq
  have HHD1 := Lib.hid hd1
  have HHD2 := Lib.hid hd2
  clear hd1 hd2
  have HV := Lib.hid (show (2 * p * q + 1000) / 2000 = (2 * (p * q) + 1000) / (2 * 1000) by rw [Int.mul_assoc]; rfl)
  rw [HV.out] at hv
  try rw [HV.out]
  obtain ⟨X, hX⟩ : ∃ X, p * q = X := ⟨_, rfl⟩
  rw [hX] at hw hpq0 hpq1 hv
  try rw [hX]
  obtain ⟨V, hV⟩ : ∃ V, (2 * X + 1000) / (2 * 1000) = V := ⟨_, rfl⟩
  have hV0 : 0 ≤ V := by rw [← hV]; exact Int.ediv_nonneg (by omega) (by omega)
  rw [hV] at hv
  try rw [hV]
  have HVQ := Lib.hid hV
  clear hV
  have HX := Lib.hid hX
  have HHV := Lib.hid hv
  have hw' : IntKind.i64.wrap (p * q) = X := by rw [hX]; exact hw
  clear hX hw hv
  have hmf : ∀ (fn : Fn) (first cap : Array Value) (w : World), (Instr.makeFunc fn first cap).run Tryz.prog w = .ok (.func fn first cap) w := fun _ _ _ _ => rfl
  go_enter_defers Tryz.func103, Tryz.ntmps103
  go_upto_region 2 with (fail)
  obtain ⟨W1, hW1⟩ : ∃ W, W = w.alloc (.cells #[.int .i64 0] 46) := ⟨_, rfl⟩
  have HP := Lib.hid (show Blk W1 w.heap.size 46 #[.int .i64 0] by rw [hW1]; exact Blk.new _ _ _)
  have HB := Lib.hid (show Below w.heap.size w W1 by rw [hW1]; exact below_alloc (Below.refl _ _) _)
  obtain ⟨P, hP⟩ : ∃ P, P = w.heap.size := ⟨_, rfl⟩
  have HGP := Lib.hid hP
  rw [← hW1]
  rw [← hP] at HP ⊢
  clear hP hW1
  go_wp2_with fail
  refine (isAmount_any p W1).mono ?_
  rintro _ _ ⟨rfl, rfl⟩
  rw [HHD1.out]
  go_wp2_with fail
  refine (minside_any q 0 1000000000 W1).mono ?_
  rintro _ _ ⟨rfl, rfl⟩
  rw [HHD2.out]
  go_wp2_with fail
  refine (minside_any 1000 1 1000000000 W1).mono ?_
  rintro _ _ ⟨rfl, rfl⟩
  go_wp2_with fail
  refine (mneed_ok 1 W1).mono ?_
  rintro _ _ ⟨rfl, rfl⟩
  go_wp2_with fail
  refine (half_any X 1000 W1 (by omega) (by omega) (by omega) (by omega)).mono ?_
  rintro _ _ ⟨rfl, rfl⟩
  rw [HVQ.out]
  go_wp2_with fail
  refine (checked_ok V W1 hV0 HHV.out).mono ?_
  rintro _ _ ⟨rfl, rfl⟩
  have p0 : W1.cell? ⟨P, 0, none⟩ = some (.int .i64 0) := HP.out.cell 0
  have p1 := HP.out.frozen 0
  go_wp2
  refine leaves_cons (f := 113) (args := #[.pointer (some ⟨P, 0, none⟩)]) (by simp) (by simp [go_sem]) ?_
  refine (times_idle ⟨P, 0, none⟩ _).mono ?_
  rintro e u' w'' ⟨rfl, rfl, rfl⟩
  have hbl : Below w.heap.size w (W1.setCell ⟨P, 0, none⟩ (.int .i64 0)) := HB.out.setCell (p := ⟨P, 0, none⟩) (by have := HGP.out; simp only; omega) _
  have hcl : (W1.setCell ⟨P, 0, none⟩ (.int .i64 0)).cell? ⟨P, 0, none⟩ = some (.int .i64 0) := (HP.out.set 0 (.int .i64 0)).cell 0
  clear hmf
  simp [Leaves, settle, results, Tryz.results103, go_sem, hcl]
  exact ⟨hbl, rfl⟩

set_option maxRecDepth 100000 in
set_option maxHeartbeats 8000000 in
theorem times_no (p q : Int) (w : World) (p0 : 0 ≤ p) (p1 : p ≤ 1000000) (q0 : 0 ≤ q) (q1 : q ≤ 1000000000) (hv : 1000000000 < (2 * p * q + 1000) / 2000) : Calls Tryz.prog 103 #[.int .i64 p, .int .i64 q, .int .i64 1000] w (MoneyOut 0 3 w) := by
  have hd1 : (decide (0 ≤ p) && decide (p ≤ 1000000000)) = true := by simp; omega
  have hd2 : (decide (0 ≤ q) && decide (q ≤ 1000000000)) = true := by simp; omega
  have hpq := nn_mul p0 q0 p1 q1
  have hw : IntKind.i64.wrap (p * q) = p * q := IntWalk.i64_in _ (by omega)
  have hpq0 := hpq.1
  have hpq1 := hpq.2
  clear hpq
  have HHD1 := Lib.hid hd1
  have HHD2 := Lib.hid hd2
  clear hd1 hd2
  have HV := Lib.hid (show (2 * p * q + 1000) / 2000 = (2 * (p * q) + 1000) / (2 * 1000) by rw [Int.mul_assoc]; rfl)
  rw [HV.out] at hv
  try rw [HV.out]
  obtain ⟨X, hX⟩ : ∃ X, p * q = X := ⟨_, rfl⟩
  rw [hX] at hw hpq0 hpq1 hv
  try rw [hX]
  obtain ⟨V, hV⟩ : ∃ V, (2 * X + 1000) / (2 * 1000) = V := ⟨_, rfl⟩
  have hV0 : 0 ≤ V := by rw [← hV]; exact Int.ediv_nonneg (by omega) (by omega)
  rw [hV] at hv
  try rw [hV]
  have HVQ := Lib.hid hV
  clear hV
  have HX := Lib.hid hX
  have HHV := Lib.hid hv
  have hw' : IntKind.i64.wrap (p * q) = X := by rw [hX]; exact hw
  clear hX hw hv
  have hmf : ∀ (fn : Fn) (first cap : Array Value) (w : World), (Instr.makeFunc fn first cap).run Tryz.prog w = .ok (.func fn first cap) w := fun _ _ _ _ => rfl
  go_enter_defers Tryz.func103, Tryz.ntmps103
  go_upto_region 2 with (fail)
  obtain ⟨W1, hW1⟩ : ∃ W, W = w.alloc (.cells #[.int .i64 0] 46) := ⟨_, rfl⟩
  have HP := Lib.hid (show Blk W1 w.heap.size 46 #[.int .i64 0] by rw [hW1]; exact Blk.new _ _ _)
  have HB := Lib.hid (show Below w.heap.size w W1 by rw [hW1]; exact below_alloc (Below.refl _ _) _)
  obtain ⟨P, hP⟩ : ∃ P, P = w.heap.size := ⟨_, rfl⟩
  have HGP := Lib.hid hP
  rw [← hW1]
  rw [← hP] at HP ⊢
  clear hP hW1
  go_wp2_with fail
  refine (isAmount_any p W1).mono ?_
  rintro _ _ ⟨rfl, rfl⟩
  rw [HHD1.out]
  go_wp2_with fail
  refine (minside_any q 0 1000000000 W1).mono ?_
  rintro _ _ ⟨rfl, rfl⟩
  rw [HHD2.out]
  go_wp2_with fail
  refine (minside_any 1000 1 1000000000 W1).mono ?_
  rintro _ _ ⟨rfl, rfl⟩
  go_wp2_with fail
  refine (mneed_ok 1 W1).mono ?_
  rintro _ _ ⟨rfl, rfl⟩
  go_wp2_with fail
  refine (half_any X 1000 W1 (by omega) (by omega) (by omega) (by omega)).mono ?_
  rintro _ _ ⟨rfl, rfl⟩
  rw [HVQ.out]
  go_wp2_with fail
  refine (checked_no V W1 HHV.out).mono ?_
  rintro _ _ ⟨rfl, rfl⟩
  go_wp2
  refine leaves_cons (f := 113) (args := #[.pointer (some ⟨P, 0, none⟩)]) (by simp) (by simp [go_sem]) ?_
  refine (times_panic P 0 3 [] W1 (HP.out.cell 0) (HP.out.frozen 0)).mono ?_
  rintro e u' w'' ⟨rfl, rfl, rfl⟩
  have hcl : ((W1.setCell ⟨P, 0, none⟩ (.int .i64 3)).alloc (.cells #[.int .i64 3] 169)).cell? ⟨P, 0, none⟩ = some (.int .i64 3) := ((HP.out.set 0 (.int .i64 3)).alloc _).cell 0
  have hbl : Below w.heap.size w ((W1.setCell ⟨P, 0, none⟩ (.int .i64 3)).alloc (.cells #[.int .i64 3] 169)) := below_alloc (HB.out.setCell (p := ⟨P, 0, none⟩) (by have := HGP.out; simp only; omega) _) _
  clear hmf
  simp [Leaves, settle, results, Tryz.results103, go_sem, hcl]
  exact ⟨hbl, rfl⟩

set_option maxRecDepth 100000 in
set_option maxHeartbeats 8000000 in
theorem started_ok (p q u : Int) (w : World) (p0 : 0 ≤ p) (p1 : p ≤ 1000000) (q0 : 0 ≤ q) (q1 : q ≤ 2880) (u0 : 1 ≤ u) (u1 : u ≤ 1440) (hv : p * ((q + u - 1) / u) ≤ 1000000000) : Calls Tryz.prog 115 #[.int .i64 p, .int .i64 q, .int .i64 u] w (MoneyOut (p * ((q + u - 1) / u)) 0 w) := by
  have hd1 : (decide (0 ≤ p) && decide (p ≤ 1000000000)) = true := by simp; omega
  have hd2 : (decide (0 ≤ q) && decide (q ≤ 1000000000)) = true := by simp; omega
  have hd3 : (decide (1 ≤ u) && decide (u ≤ 1000000000)) = true := by simp; omega
  have HHD1 := Lib.hid hd1
  have HHD2 := Lib.hid hd2
  have HHD3 := Lib.hid hd3
  clear hd1 hd2 hd3
  have hu : ¬ u = 0 := by omega
  have hw1 : IntKind.i64.wrap (q + u) = q + u := IntWalk.i64_in _ (by omega)
  have hw2 : IntKind.i64.wrap (q + u - 1) = q + u - 1 := IntWalk.i64_in _ (by omega)
  have hw3 : (q + u - 1).tdiv u = (q + u - 1) / u := Int.tdiv_eq_ediv_of_nonneg (by omega)
  have hq0 : 0 ≤ (q + u - 1) / u := Int.ediv_nonneg (by omega) (by omega)
  have hq2 : 2880 * u = 2880 + 2880 * (u - 1) := by omega
  have hq1 : (q + u - 1) / u ≤ 2880 := Int.ediv_le_of_le_mul (by omega) (by omega)
  clear hq2
  have hpq := nn_mul p0 hq0 p1 hq1
  have hw4 : IntKind.i64.wrap ((q + u - 1) / u) = (q + u - 1) / u := IntWalk.i64_in _ (by omega)
  have hw5 : IntKind.i64.wrap (p * ((q + u - 1) / u)) = p * ((q + u - 1) / u) := IntWalk.i64_in _ (by omega)
  have HPQ := Lib.hid hpq
  have HHV := Lib.hid hv
  clear hpq hv hq0 hq1
  have hmf : ∀ (fn : Fn) (first cap : Array Value) (w : World), (Instr.makeFunc fn first cap).run Tryz.prog w = .ok (.func fn first cap) w := fun _ _ _ _ => rfl
  go_enter_defers Tryz.func115, Tryz.ntmps115
  go_upto_region 2 with (fail)
  obtain ⟨W1, hW1⟩ : ∃ W, W = w.alloc (.cells #[.int .i64 0] 46) := ⟨_, rfl⟩
  have HP := Lib.hid (show Blk W1 w.heap.size 46 #[.int .i64 0] by rw [hW1]; exact Blk.new _ _ _)
  have HB := Lib.hid (show Below w.heap.size w W1 by rw [hW1]; exact below_alloc (Below.refl _ _) _)
  obtain ⟨P, hP⟩ : ∃ P, P = w.heap.size := ⟨_, rfl⟩
  have HGP := Lib.hid hP
  rw [← hW1]
  rw [← hP] at HP ⊢
  clear hP hW1
  go_wp2_with fail
  refine (isAmount_any p W1).mono ?_
  rintro _ _ ⟨rfl, rfl⟩
  rw [HHD1.out]
  go_wp2_with fail
  refine (minside_any q 0 1000000000 W1).mono ?_
  rintro _ _ ⟨rfl, rfl⟩
  rw [HHD2.out]
  go_wp2_with fail
  refine (minside_any u 1 1000000000 W1).mono ?_
  rintro _ _ ⟨rfl, rfl⟩
  rw [HHD3.out]
  go_wp2_with fail
  refine (mneed_ok 1 W1).mono ?_
  rintro _ _ ⟨rfl, rfl⟩
  go_wp2_with fail
  refine (checked_ok (p * ((q + u - 1) / u)) W1 HPQ.out.1 HHV.out).mono ?_
  rintro _ _ ⟨rfl, rfl⟩
  have p0 : W1.cell? ⟨P, 0, none⟩ = some (.int .i64 0) := HP.out.cell 0
  have p1 := HP.out.frozen 0
  go_wp2
  refine leaves_cons (f := 121) (args := #[.pointer (some ⟨P, 0, none⟩)]) (by simp) (by simp [go_sem]) ?_
  refine (started_idle ⟨P, 0, none⟩ _).mono ?_
  rintro e u' w'' ⟨rfl, rfl, rfl⟩
  have hbl : Below w.heap.size w (W1.setCell ⟨P, 0, none⟩ (.int .i64 0)) := HB.out.setCell (p := ⟨P, 0, none⟩) (by have := HGP.out; simp only; omega) _
  have hcl : (W1.setCell ⟨P, 0, none⟩ (.int .i64 0)).cell? ⟨P, 0, none⟩ = some (.int .i64 0) := (HP.out.set 0 (.int .i64 0)).cell 0
  clear hmf
  simp [Leaves, settle, results, Tryz.results115, go_sem, hcl]
  exact ⟨hbl, rfl⟩

set_option maxRecDepth 100000 in
set_option maxHeartbeats 8000000 in
theorem started_no (p q u : Int) (w : World) (p0 : 0 ≤ p) (p1 : p ≤ 1000000) (q0 : 0 ≤ q) (q1 : q ≤ 2880) (u0 : 1 ≤ u) (u1 : u ≤ 1440) (hv : 1000000000 < p * ((q + u - 1) / u)) : Calls Tryz.prog 115 #[.int .i64 p, .int .i64 q, .int .i64 u] w (MoneyOut 0 3 w) := by
  have hd1 : (decide (0 ≤ p) && decide (p ≤ 1000000000)) = true := by simp; omega
  have hd2 : (decide (0 ≤ q) && decide (q ≤ 1000000000)) = true := by simp; omega
  have hd3 : (decide (1 ≤ u) && decide (u ≤ 1000000000)) = true := by simp; omega
  have HHD1 := Lib.hid hd1
  have HHD2 := Lib.hid hd2
  have HHD3 := Lib.hid hd3
  clear hd1 hd2 hd3
  have hu : ¬ u = 0 := by omega
  have hw1 : IntKind.i64.wrap (q + u) = q + u := IntWalk.i64_in _ (by omega)
  have hw2 : IntKind.i64.wrap (q + u - 1) = q + u - 1 := IntWalk.i64_in _ (by omega)
  have hw3 : (q + u - 1).tdiv u = (q + u - 1) / u := Int.tdiv_eq_ediv_of_nonneg (by omega)
  have hq0 : 0 ≤ (q + u - 1) / u := Int.ediv_nonneg (by omega) (by omega)
  have hq2 : 2880 * u = 2880 + 2880 * (u - 1) := by omega
  have hq1 : (q + u - 1) / u ≤ 2880 := Int.ediv_le_of_le_mul (by omega) (by omega)
  clear hq2
  have hpq := nn_mul p0 hq0 p1 hq1
  have hw4 : IntKind.i64.wrap ((q + u - 1) / u) = (q + u - 1) / u := IntWalk.i64_in _ (by omega)
  have hw5 : IntKind.i64.wrap (p * ((q + u - 1) / u)) = p * ((q + u - 1) / u) := IntWalk.i64_in _ (by omega)
  have HPQ := Lib.hid hpq
  have HHV := Lib.hid hv
  clear hpq hv hq0 hq1
  have hmf : ∀ (fn : Fn) (first cap : Array Value) (w : World), (Instr.makeFunc fn first cap).run Tryz.prog w = .ok (.func fn first cap) w := fun _ _ _ _ => rfl
  go_enter_defers Tryz.func115, Tryz.ntmps115
  go_upto_region 2 with (fail)
  obtain ⟨W1, hW1⟩ : ∃ W, W = w.alloc (.cells #[.int .i64 0] 46) := ⟨_, rfl⟩
  have HP := Lib.hid (show Blk W1 w.heap.size 46 #[.int .i64 0] by rw [hW1]; exact Blk.new _ _ _)
  have HB := Lib.hid (show Below w.heap.size w W1 by rw [hW1]; exact below_alloc (Below.refl _ _) _)
  obtain ⟨P, hP⟩ : ∃ P, P = w.heap.size := ⟨_, rfl⟩
  have HGP := Lib.hid hP
  rw [← hW1]
  rw [← hP] at HP ⊢
  clear hP hW1
  go_wp2_with fail
  refine (isAmount_any p W1).mono ?_
  rintro _ _ ⟨rfl, rfl⟩
  rw [HHD1.out]
  go_wp2_with fail
  refine (minside_any q 0 1000000000 W1).mono ?_
  rintro _ _ ⟨rfl, rfl⟩
  rw [HHD2.out]
  go_wp2_with fail
  refine (minside_any u 1 1000000000 W1).mono ?_
  rintro _ _ ⟨rfl, rfl⟩
  rw [HHD3.out]
  go_wp2_with fail
  refine (mneed_ok 1 W1).mono ?_
  rintro _ _ ⟨rfl, rfl⟩
  go_wp2_with fail
  refine (checked_no (p * ((q + u - 1) / u)) W1 HHV.out).mono ?_
  rintro _ _ ⟨rfl, rfl⟩
  go_wp2
  refine leaves_cons (f := 121) (args := #[.pointer (some ⟨P, 0, none⟩)]) (by simp) (by simp [go_sem]) ?_
  refine (started_panic P 0 3 [] W1 (HP.out.cell 0) (HP.out.frozen 0)).mono ?_
  rintro e u' w'' ⟨rfl, rfl, rfl⟩
  have hcl : ((W1.setCell ⟨P, 0, none⟩ (.int .i64 3)).alloc (.cells #[.int .i64 3] 169)).cell? ⟨P, 0, none⟩ = some (.int .i64 3) := ((HP.out.set 0 (.int .i64 3)).alloc _).cell 0
  have hbl : Below w.heap.size w ((W1.setCell ⟨P, 0, none⟩ (.int .i64 3)).alloc (.cells #[.int .i64 3] 169)) := below_alloc (HB.out.setCell (p := ⟨P, 0, none⟩) (by have := HGP.out; simp only; omega) _) _
  clear hmf
  simp [Leaves, settle, results, Tryz.results115, go_sem, hcl]
  exact ⟨hbl, rfl⟩

set_option maxRecDepth 100000 in
set_option maxHeartbeats 8000000 in
theorem tax_ok (n r : Int) (w : World) (n0 : 0 ≤ n) (n1 : n ≤ 1000000000) (r0 : 0 ≤ r) (r1 : r ≤ 10000) (hv : (2 * n * r + 10000) / 20000 ≤ 1000000000) : Calls Tryz.prog 70 #[.int .i64 n, .int .i64 r] w (MoneyOut ((2 * n * r + 10000) / 20000) 0 w) := by
  have hd1 : (decide (0 ≤ n) && decide (n ≤ 1000000000)) = true := by simp; omega
  have hd2 : (decide (0 ≤ r) && decide (r ≤ 100000)) = true := by simp; omega
  have hpq := nn_mul n0 r0 n1 r1
  have hw : IntKind.i64.wrap (n * r) = n * r := IntWalk.i64_in _ (by omega)
  have hpq0 := hpq.1
  have hpq1 := hpq.2
  clear hpq
  have HHD1 := Lib.hid hd1
  have HHD2 := Lib.hid hd2
  clear hd1 hd2
  have HV := Lib.hid (show (2 * n * r + 10000) / 20000 = (2 * (n * r) + 10000) / (2 * 10000) by rw [Int.mul_assoc]; rfl)
  rw [HV.out] at hv
  try rw [HV.out]
  obtain ⟨X, hX⟩ : ∃ X, n * r = X := ⟨_, rfl⟩
  rw [hX] at hw hpq0 hpq1 hv
  try rw [hX]
  obtain ⟨V, hV⟩ : ∃ V, (2 * X + 10000) / (2 * 10000) = V := ⟨_, rfl⟩
  have hV0 : 0 ≤ V := by rw [← hV]; exact Int.ediv_nonneg (by omega) (by omega)
  rw [hV] at hv
  try rw [hV]
  have HVQ := Lib.hid hV
  clear hV
  have HX := Lib.hid hX
  have HHV := Lib.hid hv
  have hw' : IntKind.i64.wrap (n * r) = X := by rw [hX]; exact hw
  clear hX hw hv
  have hmf : ∀ (fn : Fn) (first cap : Array Value) (w : World), (Instr.makeFunc fn first cap).run Tryz.prog w = .ok (.func fn first cap) w := fun _ _ _ _ => rfl
  go_enter_defers Tryz.func70, Tryz.ntmps70
  go_upto_region 2 with (fail)
  obtain ⟨W1, hW1⟩ : ∃ W, W = w.alloc (.cells #[.int .i64 0] 46) := ⟨_, rfl⟩
  have HP := Lib.hid (show Blk W1 w.heap.size 46 #[.int .i64 0] by rw [hW1]; exact Blk.new _ _ _)
  have HB := Lib.hid (show Below w.heap.size w W1 by rw [hW1]; exact below_alloc (Below.refl _ _) _)
  obtain ⟨P, hP⟩ : ∃ P, P = w.heap.size := ⟨_, rfl⟩
  have HGP := Lib.hid hP
  rw [← hW1]
  rw [← hP] at HP ⊢
  clear hP hW1
  go_wp2_with fail
  refine (isAmount_any n W1).mono ?_
  rintro _ _ ⟨rfl, rfl⟩
  rw [HHD1.out]
  go_wp2_with fail
  refine (minside_any r 0 100000 W1).mono ?_
  rintro _ _ ⟨rfl, rfl⟩
  rw [HHD2.out]
  go_wp2_with fail
  refine (mneed_ok 1 W1).mono ?_
  rintro _ _ ⟨rfl, rfl⟩
  go_wp2_with fail
  refine (half_any X 10000 W1 (by omega) (by omega) (by omega) (by omega)).mono ?_
  rintro _ _ ⟨rfl, rfl⟩
  rw [HVQ.out]
  go_wp2_with fail
  refine (checked_ok V W1 hV0 HHV.out).mono ?_
  rintro _ _ ⟨rfl, rfl⟩
  have p0 : W1.cell? ⟨P, 0, none⟩ = some (.int .i64 0) := HP.out.cell 0
  have p1 := HP.out.frozen 0
  go_wp2
  refine leaves_cons (f := 90) (args := #[.pointer (some ⟨P, 0, none⟩)]) (by simp) (by simp [go_sem]) ?_
  refine (tax_idle ⟨P, 0, none⟩ _).mono ?_
  rintro e u' w'' ⟨rfl, rfl, rfl⟩
  have hbl : Below w.heap.size w (W1.setCell ⟨P, 0, none⟩ (.int .i64 0)) := HB.out.setCell (p := ⟨P, 0, none⟩) (by have := HGP.out; simp only; omega) _
  have hcl : (W1.setCell ⟨P, 0, none⟩ (.int .i64 0)).cell? ⟨P, 0, none⟩ = some (.int .i64 0) := (HP.out.set 0 (.int .i64 0)).cell 0
  clear hmf
  simp [Leaves, settle, results, Tryz.results70, go_sem, hcl]
  exact ⟨hbl, rfl⟩

set_option maxRecDepth 100000 in
set_option maxHeartbeats 8000000 in
theorem tax_big (n r : Int) (w : World) (n1 : 1000000000 < n) : Calls Tryz.prog 70 #[.int .i64 n, .int .i64 r] w (MoneyOut 0 1 w) := by
  have hd1 : (decide (0 ≤ n) && decide (n ≤ 1000000000)) = false := by simp; omega
  have HHD1 := Lib.hid hd1
  clear hd1
  have hmf : ∀ (fn : Fn) (first cap : Array Value) (w : World), (Instr.makeFunc fn first cap).run Tryz.prog w = .ok (.func fn first cap) w := fun _ _ _ _ => rfl
  go_enter_defers Tryz.func70, Tryz.ntmps70
  go_upto_region 2 with (fail)
  obtain ⟨W1, hW1⟩ : ∃ W, W = w.alloc (.cells #[.int .i64 0] 46) := ⟨_, rfl⟩
  have HP := Lib.hid (show Blk W1 w.heap.size 46 #[.int .i64 0] by rw [hW1]; exact Blk.new _ _ _)
  have HB := Lib.hid (show Below w.heap.size w W1 by rw [hW1]; exact below_alloc (Below.refl _ _) _)
  obtain ⟨P, hP⟩ : ∃ P, P = w.heap.size := ⟨_, rfl⟩
  have HGP := Lib.hid hP
  rw [← hW1]
  rw [← hP] at HP ⊢
  clear hP hW1
  go_wp2_with fail
  refine (isAmount_any n W1).mono ?_
  rintro _ _ ⟨rfl, rfl⟩
  rw [HHD1.out]
  go_wp2_with fail
  refine (mneed_no 1 W1).mono ?_
  rintro _ _ ⟨rfl, rfl⟩
  go_wp2
  refine leaves_cons (f := 90) (args := #[.pointer (some ⟨P, 0, none⟩)]) (by simp) (by simp [go_sem]) ?_
  refine (tax_panic P 0 1 [] W1 (HP.out.cell 0) (HP.out.frozen 0)).mono ?_
  rintro e u' w'' ⟨rfl, rfl, rfl⟩
  have hcl : ((W1.setCell ⟨P, 0, none⟩ (.int .i64 1)).alloc (.cells #[.int .i64 1] 169)).cell? ⟨P, 0, none⟩ = some (.int .i64 1) := ((HP.out.set 0 (.int .i64 1)).alloc _).cell 0
  have hbl : Below w.heap.size w ((W1.setCell ⟨P, 0, none⟩ (.int .i64 1)).alloc (.cells #[.int .i64 1] 169)) := below_alloc (HB.out.setCell (p := ⟨P, 0, none⟩) (by have := HGP.out; simp only; omega) _) _
  clear hmf
  simp [Leaves, settle, results, Tryz.results70, go_sem, hcl]
  exact ⟨hbl, rfl⟩

end Go.Proofs.YtkfmmiekajgdjaaGreat