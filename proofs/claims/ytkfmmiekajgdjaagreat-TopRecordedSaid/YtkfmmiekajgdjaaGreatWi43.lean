/- Package auditor: started. -/
import Derived.Test.YtkfmmiekajgdjaaGreatWh43
namespace Go.Proofs.YtkfmmiekajgdjaaGreat
open Go.RowKit
attribute [local go_sem] Oper.semAt_some

/-- In how many of the first k minutes from a minute an article applies. -/
def cntA (a : Art) (c : ClA) (f : Int) : Nat → Nat
  | 0 => 0
  | k + 1 => cntA a c f k + if appA a c (f + k) then 1 else 0
theorem cntA_le (a : Art) (c : ClA) (f : Int) : ∀ k, cntA a c f k ≤ k
  | 0 => Nat.le_refl _
  | k + 1 => by
    have := cntA_le a c f k
    unfold cntA
    split <;> omega
/-- What the minutes of a stretch cost. -/
def startedA (a : Art) (c : ClA) (f t : Int) : Int := a.p * ((max 0 ((cntA a c f (t - f).toNat : Nat) - a.r : Int) + a.u - 1) / a.u)
theorem started_bounds {p u n r : Int} {V : Int} (hV : p * ((max 0 (n - r) + u - 1) / u) = V) (p0 : 0 ≤ p) (p1 : p ≤ 1000000) (u0 : 1 ≤ u) (u1 : u ≤ 1440) (r0 : 0 ≤ r) (n0 : 0 ≤ n) (n1 : n ≤ 2880) : 0 ≤ V ∧ V ≤ 2880000000 := by
  have h1 : 0 ≤ (max 0 (n - r) + u - 1) / u := Int.ediv_nonneg (by omega) (by omega)
  have h2 : (max 0 (n - r) + u - 1) / u ≤ 2880 := by
    refine Int.ediv_le_of_le_mul (by omega) ?_
    have : 2880 * u = 2880 + 2880 * (u - 1) := by omega
    omega
  rw [← hV]
  refine ⟨Int.mul_nonneg p0 h1, ?_⟩
  calc p * ((max 0 (n - r) + u - 1) / u) ≤ 1000000 * ((max 0 (n - r) + u - 1) / u) := Int.mul_le_mul_of_nonneg_right p1 h1
    _ ≤ 2880000000 := by omega

set_option maxRecDepth 100000 in
set_option maxHeartbeats 8000000 in
theorem started_any (w0 w : World) (g : Nat) (c : ClA) (s : SesA) (b : BilA) (z : Int) (a : Art) (f t : Int) (h : ExM w0 w g c s b z) (hd : datA c.off c.chg c.hol = true) (h0 : 0 ≤ f) (h01 : f ≤ t) (h1 : t ≤ 52560000) (h2 : t - f ≤ 2880) (p0 : 0 ≤ a.p) (p1 : a.p ≤ 1000000) (u0 : 1 ≤ a.u) (u1 : a.u ≤ 1440) (r0 : 0 ≤ a.r) (r1 : a.r ≤ 1440) : Calls Tryz.prog 99 #[.pointer (some ⟨g, 0, none⟩), artV a, .int .i64 f, .int .i64 t] w (Ret (.int .i64 (startedA a c f t)) w) := by
  have HX := Lib.hid h
  clear h
  obtain ⟨V, hV⟩ : ∃ V, startedA a c f t = V := ⟨_, rfl⟩
  rw [hV]
  have HV := Lib.hid hV
  clear hV
  go_enter Tryz.func99, Tryz.ntmps99
  go_upto_region 1 with (fail)
  obtain ⟨W1, hW1⟩ : ∃ W1, W1 = w.alloc (.cells #[.int .i64 a.k, .int .i64 a.d, .int .i64 a.f, .int .i64 a.t, .int .i64 a.p, .int .i64 a.u, .int .i64 a.r] 72) := ⟨_, rfl⟩
  have HQ := Lib.hid (show Blk W1 w.heap.size 72 #[.int .i64 a.k, .int .i64 a.d, .int .i64 a.f, .int .i64 a.t, .int .i64 a.p, .int .i64 a.u, .int .i64 a.r] by rw [hW1]; exact Blk.new _ _ _)
  have HB := Lib.hid (show Below w.heap.size w W1 by rw [hW1]; exact below_alloc (Below.refl _ _) _)
  try rw [← hW1]
  clear hW1
  replace HX := Lib.hid (HX.out.later HB.out)
  obtain ⟨Q, hQ⟩ : ∃ B, w.heap.size = B := ⟨_, rfl⟩
  rw [hQ] at HQ ⊢
  clear hQ
  have x6 : W1.cell? ⟨Q, 6, none⟩ = some (.int .i64 a.r) := HQ.out.cell 6
  go_wp2
  clear x6
  go_loopw [9, 10] (fun v i wr => ∃ k : Nat, (k : Int) ≤ t - f ∧ i = .int .i64 (f + k) ∧ v = .int .i64 (cntA a c f k - a.r) ∧ Below W1.heap.size W1 wr) (fun _ i _ => (t - intOf i).toNat)
  case atStart => exact ⟨0, by omega, by go_num, by simp [cntA], Below.refl _ _⟩
  case round =>
    obtain ⟨k, hk, rfl, rfl, hb⟩ := hrel
    obtain ⟨wA, rfl⟩ : ∃ wA : World, wA = wr := ⟨_, rfl⟩
    have HBR := Lib.hid hb
    clear hb
    have hcl := cntA_le a c f k
    by_cases hlt : (k : Int) < t - f
    · have HS := Lib.hid (show cntA a c f (k + 1) = cntA a c f k + if appA a c (f + k) then 1 else 0 from rfl)
      have HCA := Lib.hid (fun w' (hb : Below wA.heap.size wA w') => applies_any w0 w' g c s b z a (f + k) (HX.out.later (below_step HBR.out hb)) hd (by omega) (by omega))
      have HQA := Lib.hid (HQ.out.later HBR.out)
      obtain ⟨n, hn⟩ : ∃ n, cntA a c f k = n := ⟨_, rfl⟩
      rw [hn] at HS hcl ⊢
      clear hn
      obtain ⟨m, hm⟩ : ∃ m, f + (k : Int) = m := ⟨_, rfl⟩
      have HM := Lib.hid hm
      have hm1 : m < t := by omega
      have hm0 : 0 ≤ m := by omega
      rw [hm] at HS HCA ⊢
      clear hm
      have hdl : decide (m < t) = true := decide_eq_true hm1
      obtain ⟨d, hdd⟩ : ∃ d, appA a c m = d := ⟨_, rfl⟩
      rw [hdd] at HS HCA
      clear hdd
      have y0 : wA.cell? ⟨Q, 0, none⟩ = some (.int .i64 a.k) := HQA.out.cell 0
      have y1 : wA.cell? ⟨Q, 1, none⟩ = some (.int .i64 a.d) := HQA.out.cell 1
      have y2 : wA.cell? ⟨Q, 2, none⟩ = some (.int .i64 a.f) := HQA.out.cell 2
      have y3 : wA.cell? ⟨Q, 3, none⟩ = some (.int .i64 a.t) := HQA.out.cell 3
      have y4 : wA.cell? ⟨Q, 4, none⟩ = some (.int .i64 a.p) := HQA.out.cell 4
      have y5 : wA.cell? ⟨Q, 5, none⟩ = some (.int .i64 a.u) := HQA.out.cell 5
      have y6 : wA.cell? ⟨Q, 6, none⟩ = some (.int .i64 a.r) := HQA.out.cell 6
      have hk28 : (k : Int) ≤ 2880 := by omega
      have hn28 : (n : Int) ≤ 2880 := by omega
      go_wp2_with fail
      refine (HCA.out wA (Below.refl _ _)).mono ?_
      rintro _ wB ⟨rfl, hb⟩
      have HB2 := Lib.hid (below_step HBR.out hb)
      clear y0 y1 y2 y3 y4 y5 y6 hb HCA HQA
      have hk1 : (k : Int) + 1 ≤ t - f := by omega
      cases d with
      | true =>
        go_wp2
        go_roundw
        case rel => exact ⟨k + 1, by omega, by rw [← HM.out]; go_num, by rw [HS.out]; go_num, HB2.out⟩
        case measure => simp [intOf]; omega
      | false =>
        go_wp2
        go_roundw
        case rel => exact ⟨k + 1, by omega, by rw [← HM.out]; go_num, by rw [HS.out]; go_num, HB2.out⟩
        case measure => simp [intOf]; omega
    · have hke : (k : Int) = t - f := by omega
      obtain rfl : k = (t - f).toNat := by omega
      have HQA := Lib.hid (HQ.out.later HBR.out)
      obtain ⟨n, hn⟩ : ∃ n, cntA a c f (t - f).toNat = n := ⟨_, rfl⟩
      replace HV := Lib.hid (show a.p * ((max 0 ((n : Int) - a.r) + a.u - 1) / a.u) = V by rw [← HV.out, ← hn]; rfl)
      rw [hn] at hcl ⊢
      clear hn
      have hft : f + ((t - f).toNat : Int) = t := by omega
      rw [hft]
      have hdl : decide (t < t) = false := by simp
      have hn28 : (n : Int) ≤ 2880 := by omega
      have HVB := Lib.hid (started_bounds HV.out p0 p1 u0 u1 r0 (by omega) hn28)
      clear hcl hk hlt hke hft
      go_upto_region 7 with (fail)
      obtain ⟨M, hM⟩ : ∃ M, (if a.r < (n : Int) then (n : Int) - a.r else 0) = M := ⟨_, rfl⟩
      have HMX := Lib.hid (show max 0 ((n : Int) - a.r) = M by rw [← hM]; split <;> omega)
      rw [HMX.out] at HV
      have hM0 : 0 ≤ M := by have := HMX.out; omega
      have hM1 : M ≤ 2880 := by have := HMX.out; omega
      have hne : ¬ a.u = 0 := by omega
      have hw1 : IntKind.i64.wrap (M + a.u) = M + a.u := IntWalk.i64_in _ (by omega)
      have hw2 : IntKind.i64.wrap (M + a.u - 1) = M + a.u - 1 := IntWalk.i64_in _ (by omega)
      have HD2 := Lib.hid (show 0 ≤ (M + a.u - 1) / a.u ∧ (M + a.u - 1) / a.u ≤ M + a.u from ⟨Int.ediv_nonneg (by omega) (by omega), Int.le_trans (Int.ediv_le_self _ (by omega)) (by omega)⟩)
      have hdv : (M + a.u - 1).tdiv a.u = (M + a.u - 1) / a.u := Int.tdiv_eq_ediv_of_nonneg (by omega)
      obtain ⟨D, hD⟩ : ∃ D, (M + a.u - 1) / a.u = D := ⟨_, rfl⟩
      rw [hD] at HV HD2 hdv
      clear hD
      have hw3 : IntKind.i64.wrap D = D := IntWalk.i64_in _ (by have := HD2.out.1; have := HD2.out.2; omega)
      have hw4 : IntKind.i64.wrap (a.p * D) = V := by rw [HV.out]; exact IntWalk.i64_in _ (by have := HVB.out.1; have := HVB.out.2; omega)
      refine wp_region_B 12 (fun w'' => Below wA.heap.size wA w'') mixed (by kernel_rfl) (below_closed wA) (Below.refl _ _).drew ?_
      simp only [List.take_succ_cons, List.take_zero, List.drop_succ_cons, List.drop_zero]
      intro KR hR
      have HR := Lib.hid hR
      clear hR
      have HCC := Lib.hid (show ∀ w'', Below wA.heap.size wA w'' → w''.cell? ⟨Q, 4, none⟩ = some (.int .i64 a.p) ∧ w''.cell? ⟨Q, 5, none⟩ = some (.int .i64 a.u) from fun w'' hw => ⟨cell_kept hw (HQA.out.cell 4), cell_kept hw (HQA.out.cell 5)⟩)
      apply wpB_val rfl
      · (intro w' hw'; go_simp; with_reducible rfl)
      simp only [Act.put, List.setIfInBounds_toArray, List.set_cons_zero, List.set_cons_succ]
      apply wpB_val rfl
      · (intro w' hw'; obtain ⟨c0, c1⟩ := HCC.out w' hw'; go_simp; with_reducible rfl)
      simp only [Act.put, List.setIfInBounds_toArray, List.set_cons_zero, List.set_cons_succ]
      apply wpB_val rfl
      · (intro w' hw'; go_simp; with_reducible rfl)
      simp only [Act.put, List.setIfInBounds_toArray, List.set_cons_zero, List.set_cons_succ]
      apply wpB_val rfl
      · (intro w' hw'; go_simp; with_reducible rfl)
      simp only [Act.put, List.setIfInBounds_toArray, List.set_cons_zero, List.set_cons_succ]
      apply wpB_val rfl
      · (intro w' hw'; go_simp; with_reducible rfl)
      simp only [Act.put, List.setIfInBounds_toArray, List.set_cons_zero, List.set_cons_succ]
      apply wpB_val rfl
      · (intro w' hw'; obtain ⟨c0, c1⟩ := HCC.out w' hw'; go_simp; with_reducible rfl)
      simp only [Act.put, List.setIfInBounds_toArray, List.set_cons_zero, List.set_cons_succ]
      apply wpB_val rfl
      · (intro w' hw'; go_simp; with_reducible rfl)
      simp only [Act.put, List.setIfInBounds_toArray, List.set_cons_zero, List.set_cons_succ]
      apply wpB_val rfl
      · (intro w' hw'; go_simp; with_reducible rfl)
      simp only [Act.put, List.setIfInBounds_toArray, List.set_cons_zero, List.set_cons_succ]
      apply wpB_val rfl
      · (intro w' hw'; go_simp; with_reducible rfl)
      simp only [Act.put, List.setIfInBounds_toArray, List.set_cons_zero, List.set_cons_succ]
      apply wpB_val rfl
      · (intro w' hw'; obtain ⟨c0, c1⟩ := HCC.out w' hw'; go_simp; with_reducible rfl)
      simp only [Act.put, List.setIfInBounds_toArray, List.set_cons_zero, List.set_cons_succ]
      apply wpB_val rfl
      · (intro w' hw'; go_simp; with_reducible rfl)
      simp only [Act.put, List.setIfInBounds_toArray, List.set_cons_zero, List.set_cons_succ]
      apply wpB_val rfl
      · (intro w' hw'; go_simp; with_reducible rfl)
      simp only [Act.put, List.setIfInBounds_toArray, List.set_cons_zero, List.set_cons_succ]
      refine wpB_nil (HR.out _ (fun w2 hw2 => ?_))
      clear HR HCC
      go_wp2
      go_ret
      exact ⟨rfl, below_step HB.out (below_step HBR.out hw2)⟩
end Go.Proofs.YtkfmmiekajgdjaaGreat