/- Chapter 41: RecordSigns. -/
import Derived.Test.YtddbobphmakmmaaWf41
import Derived.Test.YtddbobphmakmmaaWo40
namespace Go.Proofs.Ytddbobphmakmmaa
open Go.RowKit
attribute [local go_sem] Oper.semAt_some

/-- The first n signatures are changed. -/
def xg (r : Rc) (b : K4) : Nat → Rc
  | 0 => r
  | 1 => { r with g0 := r.g0 ^^^ b.k0 }
  | 2 => { r with g0 := r.g0 ^^^ b.k0, g1 := r.g1 ^^^ b.k1 }
  | 3 => { r with g0 := r.g0 ^^^ b.k0, g1 := r.g1 ^^^ b.k1, g2 := r.g2 ^^^ b.k2 }
  | _ => { r with g0 := r.g0 ^^^ b.k0, g1 := r.g1 ^^^ b.k1, g2 := r.g2 ^^^ b.k2, g3 := r.g3 ^^^ b.k3 }
theorem sig_xg (r : Rc) (b : K4) (z : Nat) : sig (xg r b 4) z = sig r z := by simp only [sig, xg]
theorem xg_1 (r : Rc) (b : K4) : xg r b 1 = { xg r b 0 with g0 := r.g0 ^^^ b.k0 } := by simp only [xg]
theorem xg_2 (r : Rc) (b : K4) : xg r b 2 = { xg r b 1 with g1 := r.g1 ^^^ b.k1 } := by simp only [xg]
theorem xg_3 (r : Rc) (b : K4) : xg r b 3 = { xg r b 2 with g2 := r.g2 ^^^ b.k2 } := by simp only [xg]
theorem xg_4 (r : Rc) (b : K4) : xg r b 4 = { xg r b 3 with g3 := r.g3 ^^^ b.k3 } := by simp only [xg]
def firstN (b : K4) (n : Nat) : Int := first4 (decide (b.k0 ≠ 0 ∧ 0 < n)) (decide (b.k1 ≠ 0 ∧ 1 < n)) (decide (b.k2 ≠ 0 ∧ 2 < n)) (decide (b.k3 ≠ 0 ∧ 3 < n))
theorem xor_ne_iff {g y s : Nat} (h : g = s) : decide (g ^^^ y ≠ s) = decide (y ≠ 0) := by
  subst h
  by_cases hy : y = 0
  · subst hy; simp
  · have := xor_self_ne (b := g) hy
    simp [hy, this]
theorem chkC_xg {r : Rc} {k b : K4} (h : chkC r k = -1) : chkC (xg r b 4) k = firstN b 4 := by
  obtain ⟨hv, h0, h1, h2, h3⟩ := chkC_ok h
  refine (chkC_first (c := xg r b 4) (k' := k) h (by simp only [validC, xg]) rfl rfl rfl rfl).trans ?_
  rw [sig_xg, sig_xg, sig_xg, sig_xg]
  have e0 : (xg r b 4).g0 = r.g0 ^^^ b.k0 := by simp only [xg]
  have e1 : (xg r b 4).g1 = r.g1 ^^^ b.k1 := by simp only [xg]
  have e2 : (xg r b 4).g2 = r.g2 ^^^ b.k2 := by simp only [xg]
  have e3 : (xg r b 4).g3 = r.g3 ^^^ b.k3 := by simp only [xg]
  rw [e0, e1, e2, e3, xor_ne_iff h0, xor_ne_iff h1, xor_ne_iff h2, xor_ne_iff h3]
  unfold firstN
  congr 1 <;> simp

theorem firstN_z0 {b : K4} (h : b.k0 = 0) : firstN b 1 = firstN b 0 := by
  unfold firstN first4; simp [h]
theorem firstN_p0 {b : K4} (h : b.k0 ≠ 0) (hf : firstN b 0 < 0) : firstN b 1 = 0 := by
  have hf' := hf
  unfold firstN first4 at hf' ⊢
  by_cases a0 : b.k0 = 0 <;> by_cases a1 : b.k1 = 0 <;> by_cases a2 : b.k2 = 0 <;> by_cases a3 : b.k3 = 0 <;> simp_all
theorem firstN_n0 {b : K4} (hf : ¬ firstN b 0 < 0) : firstN b 1 = firstN b 0 := by
  have hf' := hf
  unfold firstN first4 at hf' ⊢
  by_cases a0 : b.k0 = 0 <;> by_cases a1 : b.k1 = 0 <;> by_cases a2 : b.k2 = 0 <;> by_cases a3 : b.k3 = 0 <;> simp_all
theorem firstN_z1 {b : K4} (h : b.k1 = 0) : firstN b 2 = firstN b 1 := by
  unfold firstN first4; simp [h]
theorem firstN_p1 {b : K4} (h : b.k1 ≠ 0) (hf : firstN b 1 < 0) : firstN b 2 = 1 := by
  have hf' := hf
  unfold firstN first4 at hf' ⊢
  by_cases a0 : b.k0 = 0 <;> by_cases a1 : b.k1 = 0 <;> by_cases a2 : b.k2 = 0 <;> by_cases a3 : b.k3 = 0 <;> simp_all
theorem firstN_n1 {b : K4} (hf : ¬ firstN b 1 < 0) : firstN b 2 = firstN b 1 := by
  have hf' := hf
  unfold firstN first4 at hf' ⊢
  by_cases a0 : b.k0 = 0 <;> by_cases a1 : b.k1 = 0 <;> by_cases a2 : b.k2 = 0 <;> by_cases a3 : b.k3 = 0 <;> simp_all
theorem firstN_z2 {b : K4} (h : b.k2 = 0) : firstN b 3 = firstN b 2 := by
  unfold firstN first4; simp [h]
theorem firstN_p2 {b : K4} (h : b.k2 ≠ 0) (hf : firstN b 2 < 0) : firstN b 3 = 2 := by
  have hf' := hf
  unfold firstN first4 at hf' ⊢
  by_cases a0 : b.k0 = 0 <;> by_cases a1 : b.k1 = 0 <;> by_cases a2 : b.k2 = 0 <;> by_cases a3 : b.k3 = 0 <;> simp_all
theorem firstN_n2 {b : K4} (hf : ¬ firstN b 2 < 0) : firstN b 3 = firstN b 2 := by
  have hf' := hf
  unfold firstN first4 at hf' ⊢
  by_cases a0 : b.k0 = 0 <;> by_cases a1 : b.k1 = 0 <;> by_cases a2 : b.k2 = 0 <;> by_cases a3 : b.k3 = 0 <;> simp_all
theorem firstN_z3 {b : K4} (h : b.k3 = 0) : firstN b 4 = firstN b 3 := by
  unfold firstN first4; simp [h]
theorem firstN_p3 {b : K4} (h : b.k3 ≠ 0) (hf : firstN b 3 < 0) : firstN b 4 = 3 := by
  have hf' := hf
  unfold firstN first4 at hf' ⊢
  by_cases a0 : b.k0 = 0 <;> by_cases a1 : b.k1 = 0 <;> by_cases a2 : b.k2 = 0 <;> by_cases a3 : b.k3 = 0 <;> simp_all
theorem firstN_n3 {b : K4} (hf : ¬ firstN b 3 < 0) : firstN b 4 = firstN b 3 := by
  have hf' := hf
  unfold firstN first4 at hf' ⊢
  by_cases a0 : b.k0 = 0 <;> by_cases a1 : b.k1 = 0 <;> by_cases a2 : b.k2 = 0 <;> by_cases a3 : b.k3 = 0 <;> simp_all
set_option maxRecDepth 100000 in
set_option maxHeartbeats 8000000 in
theorem recordSigns_any (r : Rc) (k b : K4) (w : World) (g0 : r.g0 < 18446744073709551616) (g1 : r.g1 < 18446744073709551616) (g2 : r.g2 < 18446744073709551616) (g3 : r.g3 < 18446744073709551616) :
    Calls Try.prog 7 #[recV r, keyV k, keyV b] w (Ret (.bool true) w) := by
  have x0 := Lib.hid (u64_xor_nat r.g0 b.k0 g0 b.h0)
  have x1 := Lib.hid (u64_xor_nat r.g1 b.k1 g1 b.h1)
  have x2 := Lib.hid (u64_xor_nat r.g2 b.k2 g2 b.h2)
  have x3 := Lib.hid (u64_xor_nat r.g3 b.k3 g3 b.h3)
  clear g0 g1 g2 g3
  go_enter Try.func7, Try.ntmps7
  go_wp2_with fail
  refine (head_any _).mono ?_
  rintro e w1 ⟨rfl, hb1⟩
  have HTB := Lib.hid (two_boxes w r k (below_step (below_alloc (Below.refl _ _) _) hb1))
  have HBY := Lib.hid (show KyB w1 (w.heap.size + 1 + 1) b from KyB.later (by
    have h := Blk.new ((w.alloc (.cells #[.int .i64 r.se, .int .i64 r.ch, .int .i64 r.ca, .int .i64 r.ho, .int .i64 r.hs, .int .i64 r.fi, .int .i64 r.la, .int .i64 r.en, .int .i64 r.am, .int .u64 (r.g0 : Nat), .int .u64 (r.g1 : Nat), .int .u64 (r.g2 : Nat), .int .u64 (r.g3 : Nat)] 25)).alloc (.cells #[.int .u64 (k.k0 : Nat), .int .u64 (k.k1 : Nat), .int .u64 (k.k2 : Nat), .int .u64 (k.k3 : Nat)] 23)) 23 #[.int .u64 (b.k0 : Nat), .int .u64 (b.k1 : Nat), .int .u64 (b.k2 : Nat), .int .u64 (b.k3 : Nat)]
    rw [World.size_alloc, World.size_alloc] at h
    exact h) hb1)
  have HX := Lib.hid HTB.out.1
  have HK := Lib.hid HTB.out.2.1
  have HB := Lib.hid HTB.out.2.2
  clear hb1 HTB
  have zz := HBY.out.lt
  obtain ⟨c0, c1, c2, c3, c4, c5, c6, c7, c8⟩ := HX.out.nums
  obtain ⟨c9, c10, c11, c12⟩ := HX.out.signs
  go_wp2
  clear c0 c1 c2 c3 c4 c5 c6 c7 c8 c9 c10 c11 c12
  have HC0 := Lib.hid (RcB.new w1 r)
  have HB0 := Lib.hid (below_alloc (Below.refl w1.heap.size w1) (.cells #[.int .i64 r.se, .int .i64 r.ch, .int .i64 r.ca, .int .i64 r.ho, .int .i64 r.hs, .int .i64 r.fi, .int .i64 r.la, .int .i64 r.en, .int .i64 r.am, .int .u64 (r.g0 : Nat), .int .u64 (r.g1 : Nat), .int .u64 (r.g2 : Nat), .int .u64 (r.g3 : Nat)] 25))
  obtain ⟨w2, hw2⟩ : ∃ w2, w1.alloc (.cells #[.int .i64 r.se, .int .i64 r.ch, .int .i64 r.ca, .int .i64 r.ho, .int .i64 r.hs, .int .i64 r.fi, .int .i64 r.la, .int .i64 r.en, .int .i64 r.am, .int .u64 (r.g0 : Nat), .int .u64 (r.g1 : Nat), .int .u64 (r.g2 : Nat), .int .u64 (r.g3 : Nat)] 25) = w2 := ⟨_, rfl⟩
  rw [hw2] at HC0 HB0 ⊢
  clear hw2
  go_loopw [9, 13] (fun v i wr => ∃ (n : Nat) (F : Int), n ≤ 4 ∧ i = .int .i64 n ∧ v = .int .i64 F ∧ F = firstN b n ∧ RcB wr w1.heap.size (xg r b n) ∧ Below w1.heap.size w1 wr) (fun _ i _ => 4 - (intOf i).toNat)
  case atStart => exact ⟨0, -1, by omega, rfl, rfl, by simp [firstN, first4], HC0.out, HB0.out⟩
  case round =>
    obtain ⟨n, F, hn, rfl, rfl, hF, hc, hb⟩ := hrel
    have HF := Lib.hid hF
    have HC := Lib.hid hc
    have HBW := Lib.hid hb
    have HX1 := Lib.hid (HX.out.later hb)
    have HK1 := Lib.hid (HK.out.later hb)
    have HBY1 := Lib.hid (HBY.out.later hb)
    clear hF hc hb
    rcases (by omega : n = 0 ∨ n = 1 ∨ n = 2 ∨ n = 3 ∨ n = 4) with rfl | rfl | rfl | rfl | rfl
    · rw [show ((0 : Nat) : Int) = 0 from rfl]
      have HXG := Lib.hid (xg_1 r b)
      have HGQ := Lib.hid (show (xg r b 0).g0 = r.g0 by simp only [xg])
      obtain ⟨R, hR⟩ : ∃ R, xg r b 0 = R := ⟨_, rfl⟩
      rw [hR] at HC HXG HGQ
      clear hR
      go_wp2_with fail
      have ex := x0.out
      refine wp_region_B 10 (fun w'' => Below wr.heap.size wr w'') mixed (by kernel_rfl) (below_closed wr) (Below.refl _ _).drew ?_
      simp only [List.take_succ_cons, List.take_zero, List.drop_succ_cons, List.drop_zero]
      intro KR hR
      have HR := Lib.hid hR
      clear hR
      have HCC := Lib.hid (show ∀ w'', Below wr.heap.size wr w'' → w''.cell? ⟨w1.heap.size, 9, none⟩ = some (.int .u64 (r.g0 : Nat)) ∧ w''.cell? ⟨w.heap.size + 1 + 1, 0, none⟩ = some (.int .u64 (b.k0 : Nat)) from fun w'' hw => ⟨(by have h := (HC.out.later hw).signs.1; rw [HGQ.out] at h; exact h), (HBY1.out.later hw).cell 0⟩)
      ((with_reducible refine wpB_move ?_ ?_); exact rfl; simp only [Act.put, List.setIfInBounds_toArray, List.set_cons_zero, List.set_cons_succ])
      apply wpB_val rfl
      · (intro w' hw'; go_simp; with_reducible rfl)
      simp only [Act.put, List.setIfInBounds_toArray, List.set_cons_zero, List.set_cons_succ]
      apply wpB_val rfl
      · (intro w' hw'; go_simp; with_reducible rfl)
      simp only [Act.put, List.setIfInBounds_toArray, List.set_cons_zero, List.set_cons_succ]
      apply wpB_val rfl
      · (intro w' hw'; obtain ⟨c0, c1⟩ := HCC.out w' hw'; go_simp; with_reducible rfl)
      simp only [Act.put, List.setIfInBounds_toArray, List.set_cons_zero, List.set_cons_succ]
      ((with_reducible refine wpB_move ?_ ?_); exact rfl; simp only [Act.put, List.setIfInBounds_toArray, List.set_cons_zero, List.set_cons_succ])
      apply wpB_val rfl
      · (intro w' hw'; go_simp; with_reducible rfl)
      simp only [Act.put, List.setIfInBounds_toArray, List.set_cons_zero, List.set_cons_succ]
      apply wpB_val rfl
      · (intro w' hw'; obtain ⟨c0, c1⟩ := HCC.out w' hw'; go_simp; with_reducible rfl)
      simp only [Act.put, List.setIfInBounds_toArray, List.set_cons_zero, List.set_cons_succ]
      apply wpB_val rfl
      · (intro w' hw'; go_simp; with_reducible rfl)
      simp only [Act.put, List.setIfInBounds_toArray, List.set_cons_zero, List.set_cons_succ]
      apply wpB_val rfl
      · (intro w' hw'; go_simp; with_reducible rfl)
      simp only [Act.put, List.setIfInBounds_toArray, List.set_cons_zero, List.set_cons_succ]
      apply wpB_val rfl
      · (intro w' hw'; go_simp; with_reducible rfl)
      simp only [Act.put, List.setIfInBounds_toArray, List.set_cons_zero, List.set_cons_succ]
      refine wpB_nil (HR.out _ (fun w2 hw2 => ?_))
      clear HR HCC
      have HC2 := Lib.hid (HC.out.later hw2)
      have HB2 := Lib.hid (HBW.out.trans (hw2.mono HBW.out.size))
      have HBY2 := Lib.hid (HBY1.out.later hw2)
      clear hw2
      have d : w2.cell? ⟨w1.heap.size, 9, none⟩ = some (.int .u64 (r.g0 : Nat)) := by have h := HC2.out.signs.1; rw [HGQ.out] at h; exact h
      have fz := HC2.out.frozen 9
      have HC3 := Lib.hid (RcB.setG0 HC2.out (r.g0 ^^^ b.k0))
      have HB3 := Lib.hid (HB2.out.setCell (p := ⟨w1.heap.size, 9, none⟩) (Nat.le_refl _) (.int .u64 ((r.g0 ^^^ b.k0 : Nat) : Nat)))
      have e2 : w2.cell? ⟨w.heap.size + 1 + 1, 0, none⟩ = some (.int .u64 (b.k0 : Nat)) := HBY2.out.cell 0
      have hne : w.heap.size + 1 + 1 ≠ w1.heap.size := by omega
      rw [← HXG.out] at HC3
      by_cases hbz : b.k0 = 0
      · have hbb : (b.k0 : Int) = 0 := by omega
        have HFF := Lib.hid (show F = firstN b 1 by rw [HF.out, firstN_z0 hbz])
        clear hbz
        go_wp2
        clear d fz e2 ex
        go_roundw
        case rel => exact ⟨1, F, by omega, rfl, rfl, HFF.out, HC3.out, HB3.out⟩
        case measure => simp [intOf]
      · have hbb : ((b.k0 : Int) == 0) = false := by rw [beq_eq_false_iff_ne]; omega
        have hbb2 : ((b.k0 : Int) != 0) = true := by rw [bne, hbb]; rfl
        by_cases hFn : F < 0
        · have HFF := Lib.hid (show 0 = firstN b 1 by rw [firstN_p0 hbz (by rw [← HF.out]; exact hFn)])
          go_wp2
          clear d fz e2 ex
          go_roundw
          case rel => exact ⟨1, 0, by omega, rfl, rfl, HFF.out, HC3.out, HB3.out⟩
          case measure => simp [intOf]
        · have HFF := Lib.hid (show F = firstN b 1 by rw [firstN_n0 (by rw [← HF.out]; exact hFn)]; exact HF.out)
          go_wp2
          clear d fz e2 ex
          go_roundw
          case rel => exact ⟨1, F, by omega, rfl, rfl, HFF.out, HC3.out, HB3.out⟩
          case measure => simp [intOf]
    · rw [show ((1 : Nat) : Int) = 1 from rfl]
      have HXG := Lib.hid (xg_2 r b)
      have HGQ := Lib.hid (show (xg r b 1).g1 = r.g1 by simp only [xg])
      obtain ⟨R, hR⟩ : ∃ R, xg r b 1 = R := ⟨_, rfl⟩
      rw [hR] at HC HXG HGQ
      clear hR
      go_wp2_with fail
      have ex := x1.out
      refine wp_region_B 10 (fun w'' => Below wr.heap.size wr w'') mixed (by kernel_rfl) (below_closed wr) (Below.refl _ _).drew ?_
      simp only [List.take_succ_cons, List.take_zero, List.drop_succ_cons, List.drop_zero]
      intro KR hR
      have HR := Lib.hid hR
      clear hR
      have HCC := Lib.hid (show ∀ w'', Below wr.heap.size wr w'' → w''.cell? ⟨w1.heap.size, 10, none⟩ = some (.int .u64 (r.g1 : Nat)) ∧ w''.cell? ⟨w.heap.size + 1 + 1, 1, none⟩ = some (.int .u64 (b.k1 : Nat)) from fun w'' hw => ⟨(by have h := (HC.out.later hw).signs.2.1; rw [HGQ.out] at h; exact h), (HBY1.out.later hw).cell 1⟩)
      ((with_reducible refine wpB_move ?_ ?_); exact rfl; simp only [Act.put, List.setIfInBounds_toArray, List.set_cons_zero, List.set_cons_succ])
      apply wpB_val rfl
      · (intro w' hw'; go_simp; with_reducible rfl)
      simp only [Act.put, List.setIfInBounds_toArray, List.set_cons_zero, List.set_cons_succ]
      apply wpB_val rfl
      · (intro w' hw'; go_simp; with_reducible rfl)
      simp only [Act.put, List.setIfInBounds_toArray, List.set_cons_zero, List.set_cons_succ]
      apply wpB_val rfl
      · (intro w' hw'; obtain ⟨c0, c1⟩ := HCC.out w' hw'; go_simp; with_reducible rfl)
      simp only [Act.put, List.setIfInBounds_toArray, List.set_cons_zero, List.set_cons_succ]
      ((with_reducible refine wpB_move ?_ ?_); exact rfl; simp only [Act.put, List.setIfInBounds_toArray, List.set_cons_zero, List.set_cons_succ])
      apply wpB_val rfl
      · (intro w' hw'; go_simp; with_reducible rfl)
      simp only [Act.put, List.setIfInBounds_toArray, List.set_cons_zero, List.set_cons_succ]
      apply wpB_val rfl
      · (intro w' hw'; obtain ⟨c0, c1⟩ := HCC.out w' hw'; go_simp; with_reducible rfl)
      simp only [Act.put, List.setIfInBounds_toArray, List.set_cons_zero, List.set_cons_succ]
      apply wpB_val rfl
      · (intro w' hw'; go_simp; with_reducible rfl)
      simp only [Act.put, List.setIfInBounds_toArray, List.set_cons_zero, List.set_cons_succ]
      apply wpB_val rfl
      · (intro w' hw'; go_simp; with_reducible rfl)
      simp only [Act.put, List.setIfInBounds_toArray, List.set_cons_zero, List.set_cons_succ]
      apply wpB_val rfl
      · (intro w' hw'; go_simp; with_reducible rfl)
      simp only [Act.put, List.setIfInBounds_toArray, List.set_cons_zero, List.set_cons_succ]
      refine wpB_nil (HR.out _ (fun w2 hw2 => ?_))
      clear HR HCC
      have HC2 := Lib.hid (HC.out.later hw2)
      have HB2 := Lib.hid (HBW.out.trans (hw2.mono HBW.out.size))
      have HBY2 := Lib.hid (HBY1.out.later hw2)
      clear hw2
      have d : w2.cell? ⟨w1.heap.size, 10, none⟩ = some (.int .u64 (r.g1 : Nat)) := by have h := HC2.out.signs.2.1; rw [HGQ.out] at h; exact h
      have fz := HC2.out.frozen 10
      have HC3 := Lib.hid (RcB.setG1 HC2.out (r.g1 ^^^ b.k1))
      have HB3 := Lib.hid (HB2.out.setCell (p := ⟨w1.heap.size, 10, none⟩) (Nat.le_refl _) (.int .u64 ((r.g1 ^^^ b.k1 : Nat) : Nat)))
      have e2 : w2.cell? ⟨w.heap.size + 1 + 1, 1, none⟩ = some (.int .u64 (b.k1 : Nat)) := HBY2.out.cell 1
      have hne : w.heap.size + 1 + 1 ≠ w1.heap.size := by omega
      rw [← HXG.out] at HC3
      by_cases hbz : b.k1 = 0
      · have hbb : (b.k1 : Int) = 0 := by omega
        have HFF := Lib.hid (show F = firstN b 2 by rw [HF.out, firstN_z1 hbz])
        clear hbz
        go_wp2
        clear d fz e2 ex
        go_roundw
        case rel => exact ⟨2, F, by omega, rfl, rfl, HFF.out, HC3.out, HB3.out⟩
        case measure => simp [intOf]
      · have hbb : ((b.k1 : Int) == 0) = false := by rw [beq_eq_false_iff_ne]; omega
        have hbb2 : ((b.k1 : Int) != 0) = true := by rw [bne, hbb]; rfl
        by_cases hFn : F < 0
        · have HFF := Lib.hid (show 1 = firstN b 2 by rw [firstN_p1 hbz (by rw [← HF.out]; exact hFn)])
          go_wp2
          clear d fz e2 ex
          go_roundw
          case rel => exact ⟨2, 1, by omega, rfl, rfl, HFF.out, HC3.out, HB3.out⟩
          case measure => simp [intOf]
        · have HFF := Lib.hid (show F = firstN b 2 by rw [firstN_n1 (by rw [← HF.out]; exact hFn)]; exact HF.out)
          go_wp2
          clear d fz e2 ex
          go_roundw
          case rel => exact ⟨2, F, by omega, rfl, rfl, HFF.out, HC3.out, HB3.out⟩
          case measure => simp [intOf]
    · rw [show ((2 : Nat) : Int) = 2 from rfl]
      have HXG := Lib.hid (xg_3 r b)
      have HGQ := Lib.hid (show (xg r b 2).g2 = r.g2 by simp only [xg])
      obtain ⟨R, hR⟩ : ∃ R, xg r b 2 = R := ⟨_, rfl⟩
      rw [hR] at HC HXG HGQ
      clear hR
      go_wp2_with fail
      have ex := x2.out
      refine wp_region_B 10 (fun w'' => Below wr.heap.size wr w'') mixed (by kernel_rfl) (below_closed wr) (Below.refl _ _).drew ?_
      simp only [List.take_succ_cons, List.take_zero, List.drop_succ_cons, List.drop_zero]
      intro KR hR
      have HR := Lib.hid hR
      clear hR
      have HCC := Lib.hid (show ∀ w'', Below wr.heap.size wr w'' → w''.cell? ⟨w1.heap.size, 11, none⟩ = some (.int .u64 (r.g2 : Nat)) ∧ w''.cell? ⟨w.heap.size + 1 + 1, 2, none⟩ = some (.int .u64 (b.k2 : Nat)) from fun w'' hw => ⟨(by have h := (HC.out.later hw).signs.2.2.1; rw [HGQ.out] at h; exact h), (HBY1.out.later hw).cell 2⟩)
      ((with_reducible refine wpB_move ?_ ?_); exact rfl; simp only [Act.put, List.setIfInBounds_toArray, List.set_cons_zero, List.set_cons_succ])
      apply wpB_val rfl
      · (intro w' hw'; go_simp; with_reducible rfl)
      simp only [Act.put, List.setIfInBounds_toArray, List.set_cons_zero, List.set_cons_succ]
      apply wpB_val rfl
      · (intro w' hw'; go_simp; with_reducible rfl)
      simp only [Act.put, List.setIfInBounds_toArray, List.set_cons_zero, List.set_cons_succ]
      apply wpB_val rfl
      · (intro w' hw'; obtain ⟨c0, c1⟩ := HCC.out w' hw'; go_simp; with_reducible rfl)
      simp only [Act.put, List.setIfInBounds_toArray, List.set_cons_zero, List.set_cons_succ]
      ((with_reducible refine wpB_move ?_ ?_); exact rfl; simp only [Act.put, List.setIfInBounds_toArray, List.set_cons_zero, List.set_cons_succ])
      apply wpB_val rfl
      · (intro w' hw'; go_simp; with_reducible rfl)
      simp only [Act.put, List.setIfInBounds_toArray, List.set_cons_zero, List.set_cons_succ]
      apply wpB_val rfl
      · (intro w' hw'; obtain ⟨c0, c1⟩ := HCC.out w' hw'; go_simp; with_reducible rfl)
      simp only [Act.put, List.setIfInBounds_toArray, List.set_cons_zero, List.set_cons_succ]
      apply wpB_val rfl
      · (intro w' hw'; go_simp; with_reducible rfl)
      simp only [Act.put, List.setIfInBounds_toArray, List.set_cons_zero, List.set_cons_succ]
      apply wpB_val rfl
      · (intro w' hw'; go_simp; with_reducible rfl)
      simp only [Act.put, List.setIfInBounds_toArray, List.set_cons_zero, List.set_cons_succ]
      apply wpB_val rfl
      · (intro w' hw'; go_simp; with_reducible rfl)
      simp only [Act.put, List.setIfInBounds_toArray, List.set_cons_zero, List.set_cons_succ]
      refine wpB_nil (HR.out _ (fun w2 hw2 => ?_))
      clear HR HCC
      have HC2 := Lib.hid (HC.out.later hw2)
      have HB2 := Lib.hid (HBW.out.trans (hw2.mono HBW.out.size))
      have HBY2 := Lib.hid (HBY1.out.later hw2)
      clear hw2
      have d : w2.cell? ⟨w1.heap.size, 11, none⟩ = some (.int .u64 (r.g2 : Nat)) := by have h := HC2.out.signs.2.2.1; rw [HGQ.out] at h; exact h
      have fz := HC2.out.frozen 11
      have HC3 := Lib.hid (RcB.setG2 HC2.out (r.g2 ^^^ b.k2))
      have HB3 := Lib.hid (HB2.out.setCell (p := ⟨w1.heap.size, 11, none⟩) (Nat.le_refl _) (.int .u64 ((r.g2 ^^^ b.k2 : Nat) : Nat)))
      have e2 : w2.cell? ⟨w.heap.size + 1 + 1, 2, none⟩ = some (.int .u64 (b.k2 : Nat)) := HBY2.out.cell 2
      have hne : w.heap.size + 1 + 1 ≠ w1.heap.size := by omega
      rw [← HXG.out] at HC3
      by_cases hbz : b.k2 = 0
      · have hbb : (b.k2 : Int) = 0 := by omega
        have HFF := Lib.hid (show F = firstN b 3 by rw [HF.out, firstN_z2 hbz])
        clear hbz
        go_wp2
        clear d fz e2 ex
        go_roundw
        case rel => exact ⟨3, F, by omega, rfl, rfl, HFF.out, HC3.out, HB3.out⟩
        case measure => simp [intOf]
      · have hbb : ((b.k2 : Int) == 0) = false := by rw [beq_eq_false_iff_ne]; omega
        have hbb2 : ((b.k2 : Int) != 0) = true := by rw [bne, hbb]; rfl
        by_cases hFn : F < 0
        · have HFF := Lib.hid (show 2 = firstN b 3 by rw [firstN_p2 hbz (by rw [← HF.out]; exact hFn)])
          go_wp2
          clear d fz e2 ex
          go_roundw
          case rel => exact ⟨3, 2, by omega, rfl, rfl, HFF.out, HC3.out, HB3.out⟩
          case measure => simp [intOf]
        · have HFF := Lib.hid (show F = firstN b 3 by rw [firstN_n2 (by rw [← HF.out]; exact hFn)]; exact HF.out)
          go_wp2
          clear d fz e2 ex
          go_roundw
          case rel => exact ⟨3, F, by omega, rfl, rfl, HFF.out, HC3.out, HB3.out⟩
          case measure => simp [intOf]
    · rw [show ((3 : Nat) : Int) = 3 from rfl]
      have HXG := Lib.hid (xg_4 r b)
      have HGQ := Lib.hid (show (xg r b 3).g3 = r.g3 by simp only [xg])
      obtain ⟨R, hR⟩ : ∃ R, xg r b 3 = R := ⟨_, rfl⟩
      rw [hR] at HC HXG HGQ
      clear hR
      go_wp2_with fail
      have ex := x3.out
      refine wp_region_B 10 (fun w'' => Below wr.heap.size wr w'') mixed (by kernel_rfl) (below_closed wr) (Below.refl _ _).drew ?_
      simp only [List.take_succ_cons, List.take_zero, List.drop_succ_cons, List.drop_zero]
      intro KR hR
      have HR := Lib.hid hR
      clear hR
      have HCC := Lib.hid (show ∀ w'', Below wr.heap.size wr w'' → w''.cell? ⟨w1.heap.size, 12, none⟩ = some (.int .u64 (r.g3 : Nat)) ∧ w''.cell? ⟨w.heap.size + 1 + 1, 3, none⟩ = some (.int .u64 (b.k3 : Nat)) from fun w'' hw => ⟨(by have h := (HC.out.later hw).signs.2.2.2; rw [HGQ.out] at h; exact h), (HBY1.out.later hw).cell 3⟩)
      ((with_reducible refine wpB_move ?_ ?_); exact rfl; simp only [Act.put, List.setIfInBounds_toArray, List.set_cons_zero, List.set_cons_succ])
      apply wpB_val rfl
      · (intro w' hw'; go_simp; with_reducible rfl)
      simp only [Act.put, List.setIfInBounds_toArray, List.set_cons_zero, List.set_cons_succ]
      apply wpB_val rfl
      · (intro w' hw'; go_simp; with_reducible rfl)
      simp only [Act.put, List.setIfInBounds_toArray, List.set_cons_zero, List.set_cons_succ]
      apply wpB_val rfl
      · (intro w' hw'; obtain ⟨c0, c1⟩ := HCC.out w' hw'; go_simp; with_reducible rfl)
      simp only [Act.put, List.setIfInBounds_toArray, List.set_cons_zero, List.set_cons_succ]
      ((with_reducible refine wpB_move ?_ ?_); exact rfl; simp only [Act.put, List.setIfInBounds_toArray, List.set_cons_zero, List.set_cons_succ])
      apply wpB_val rfl
      · (intro w' hw'; go_simp; with_reducible rfl)
      simp only [Act.put, List.setIfInBounds_toArray, List.set_cons_zero, List.set_cons_succ]
      apply wpB_val rfl
      · (intro w' hw'; obtain ⟨c0, c1⟩ := HCC.out w' hw'; go_simp; with_reducible rfl)
      simp only [Act.put, List.setIfInBounds_toArray, List.set_cons_zero, List.set_cons_succ]
      apply wpB_val rfl
      · (intro w' hw'; go_simp; with_reducible rfl)
      simp only [Act.put, List.setIfInBounds_toArray, List.set_cons_zero, List.set_cons_succ]
      apply wpB_val rfl
      · (intro w' hw'; go_simp; with_reducible rfl)
      simp only [Act.put, List.setIfInBounds_toArray, List.set_cons_zero, List.set_cons_succ]
      apply wpB_val rfl
      · (intro w' hw'; go_simp; with_reducible rfl)
      simp only [Act.put, List.setIfInBounds_toArray, List.set_cons_zero, List.set_cons_succ]
      refine wpB_nil (HR.out _ (fun w2 hw2 => ?_))
      clear HR HCC
      have HC2 := Lib.hid (HC.out.later hw2)
      have HB2 := Lib.hid (HBW.out.trans (hw2.mono HBW.out.size))
      have HBY2 := Lib.hid (HBY1.out.later hw2)
      clear hw2
      have d : w2.cell? ⟨w1.heap.size, 12, none⟩ = some (.int .u64 (r.g3 : Nat)) := by have h := HC2.out.signs.2.2.2; rw [HGQ.out] at h; exact h
      have fz := HC2.out.frozen 12
      have HC3 := Lib.hid (RcB.setG3 HC2.out (r.g3 ^^^ b.k3))
      have HB3 := Lib.hid (HB2.out.setCell (p := ⟨w1.heap.size, 12, none⟩) (Nat.le_refl _) (.int .u64 ((r.g3 ^^^ b.k3 : Nat) : Nat)))
      have e2 : w2.cell? ⟨w.heap.size + 1 + 1, 3, none⟩ = some (.int .u64 (b.k3 : Nat)) := HBY2.out.cell 3
      have hne : w.heap.size + 1 + 1 ≠ w1.heap.size := by omega
      rw [← HXG.out] at HC3
      by_cases hbz : b.k3 = 0
      · have hbb : (b.k3 : Int) = 0 := by omega
        have HFF := Lib.hid (show F = firstN b 4 by rw [HF.out, firstN_z3 hbz])
        clear hbz
        go_wp2
        clear d fz e2 ex
        go_roundw
        case rel => exact ⟨4, F, by omega, rfl, rfl, HFF.out, HC3.out, HB3.out⟩
        case measure => simp [intOf]
      · have hbb : ((b.k3 : Int) == 0) = false := by rw [beq_eq_false_iff_ne]; omega
        have hbb2 : ((b.k3 : Int) != 0) = true := by rw [bne, hbb]; rfl
        by_cases hFn : F < 0
        · have HFF := Lib.hid (show 3 = firstN b 4 by rw [firstN_p3 hbz (by rw [← HF.out]; exact hFn)])
          go_wp2
          clear d fz e2 ex
          go_roundw
          case rel => exact ⟨4, 3, by omega, rfl, rfl, HFF.out, HC3.out, HB3.out⟩
          case measure => simp [intOf]
        · have HFF := Lib.hid (show F = firstN b 4 by rw [firstN_n3 (by rw [← HF.out]; exact hFn)]; exact HF.out)
          go_wp2
          clear d fz e2 ex
          go_roundw
          case rel => exact ⟨4, F, by omega, rfl, rfl, HFF.out, HC3.out, HB3.out⟩
          case measure => simp [intOf]
    · rw [show ((4 : Nat) : Int) = 4 from rfl]
      have HS1 := Lib.hid (fun w' => rSign_any (xg r b 4) k.k0 k.h0 w')
      rw [sig_xg] at HS1
      have HS2 := Lib.hid (fun w' => rSign_any r k.k0 k.h0 w')
      have HC1 := Lib.hid (fun w' => rCheck_any r k w')
      have HC2 := Lib.hid (fun w' => rCheck_any (xg r b 4) k w')
      have HCN := Lib.hid (fun h : chkC r k = -1 => show chkC (xg r b 4) k = F by rw [chkC_xg h, HF.out])
      obtain ⟨R, hR⟩ : ∃ R, xg r b 4 = R := ⟨_, rfl⟩
      rw [hR] at HC HS1 HC2 HCN
      obtain ⟨S, hS⟩ : ∃ S, sig r k.k0 = S := ⟨_, rfl⟩
      rw [hS] at HS1 HS2
      clear hR hS
      have HBZ := Lib.hid (below_step HB.out HBW.out)
      by_cases hc : chkC r k = -1
      · rw [hc] at HC1
        rw [HCN.out hc] at HC2
        clear hc
        go_wp2_with fail
        refine wp_region_B 25 (fun w'' => Below wr.heap.size wr w'') mixed (by kernel_rfl) (below_closed wr) (Below.refl _ _).drew ?_
        simp only [List.take_succ_cons, List.take_zero, List.drop_succ_cons, List.drop_zero]
        intro KR hR
        have HR := Lib.hid hR
        clear hR
        have HCC := Lib.hid (show ∀ w'', Below wr.heap.size wr w'' → w''.cell? ⟨w.heap.size, 0, none⟩ = some (.int .i64 r.se) ∧ w''.cell? ⟨w.heap.size, 1, none⟩ = some (.int .i64 r.ch) ∧ w''.cell? ⟨w.heap.size, 2, none⟩ = some (.int .i64 r.ca) ∧ w''.cell? ⟨w.heap.size, 3, none⟩ = some (.int .i64 r.ho) ∧ w''.cell? ⟨w.heap.size, 4, none⟩ = some (.int .i64 r.hs) ∧ w''.cell? ⟨w.heap.size, 5, none⟩ = some (.int .i64 r.fi) ∧ w''.cell? ⟨w.heap.size, 6, none⟩ = some (.int .i64 r.la) ∧ w''.cell? ⟨w.heap.size, 7, none⟩ = some (.int .i64 r.en) ∧ w''.cell? ⟨w.heap.size, 8, none⟩ = some (.int .i64 r.am) ∧ w''.cell? ⟨w.heap.size, 9, none⟩ = some (.int .u64 (r.g0 : Nat)) ∧ w''.cell? ⟨w.heap.size, 10, none⟩ = some (.int .u64 (r.g1 : Nat)) ∧ w''.cell? ⟨w.heap.size, 11, none⟩ = some (.int .u64 (r.g2 : Nat)) ∧ w''.cell? ⟨w.heap.size, 12, none⟩ = some (.int .u64 (r.g3 : Nat)) ∧ w''.cell? ⟨w.heap.size + 1, 0, none⟩ = some (.int .u64 (k.k0 : Nat)) ∧ w''.cell? ⟨w.heap.size + 1, 1, none⟩ = some (.int .u64 (k.k1 : Nat)) ∧ w''.cell? ⟨w.heap.size + 1, 2, none⟩ = some (.int .u64 (k.k2 : Nat)) ∧ w''.cell? ⟨w.heap.size + 1, 3, none⟩ = some (.int .u64 (k.k3 : Nat)) ∧ w''.cell? ⟨w1.heap.size, 0, none⟩ = some (.int .i64 R.se) ∧ w''.cell? ⟨w1.heap.size, 1, none⟩ = some (.int .i64 R.ch) ∧ w''.cell? ⟨w1.heap.size, 2, none⟩ = some (.int .i64 R.ca) ∧ w''.cell? ⟨w1.heap.size, 3, none⟩ = some (.int .i64 R.ho) ∧ w''.cell? ⟨w1.heap.size, 4, none⟩ = some (.int .i64 R.hs) ∧ w''.cell? ⟨w1.heap.size, 5, none⟩ = some (.int .i64 R.fi) ∧ w''.cell? ⟨w1.heap.size, 6, none⟩ = some (.int .i64 R.la) ∧ w''.cell? ⟨w1.heap.size, 7, none⟩ = some (.int .i64 R.en) ∧ w''.cell? ⟨w1.heap.size, 8, none⟩ = some (.int .i64 R.am) ∧ w''.cell? ⟨w1.heap.size, 9, none⟩ = some (.int .u64 (R.g0 : Nat)) ∧ w''.cell? ⟨w1.heap.size, 10, none⟩ = some (.int .u64 (R.g1 : Nat)) ∧ w''.cell? ⟨w1.heap.size, 11, none⟩ = some (.int .u64 (R.g2 : Nat)) ∧ w''.cell? ⟨w1.heap.size, 12, none⟩ = some (.int .u64 (R.g3 : Nat)) from fun w'' hw => ⟨(HX1.out.later hw).cell 0, (HX1.out.later hw).cell 1, (HX1.out.later hw).cell 2, (HX1.out.later hw).cell 3, (HX1.out.later hw).cell 4, (HX1.out.later hw).cell 5, (HX1.out.later hw).cell 6, (HX1.out.later hw).cell 7, (HX1.out.later hw).cell 8, (HX1.out.later hw).cell 9, (HX1.out.later hw).cell 10, (HX1.out.later hw).cell 11, (HX1.out.later hw).cell 12, (HK1.out.later hw).cell 0, (HK1.out.later hw).cell 1, (HK1.out.later hw).cell 2, (HK1.out.later hw).cell 3, (HC.out.later hw).cell 0, (HC.out.later hw).cell 1, (HC.out.later hw).cell 2, (HC.out.later hw).cell 3, (HC.out.later hw).cell 4, (HC.out.later hw).cell 5, (HC.out.later hw).cell 6, (HC.out.later hw).cell 7, (HC.out.later hw).cell 8, (HC.out.later hw).cell 9, (HC.out.later hw).cell 10, (HC.out.later hw).cell 11, (HC.out.later hw).cell 12⟩)
        ((with_reducible refine wpB_move ?_ ?_); exact rfl; simp only [Act.put, List.setIfInBounds_toArray, List.set_cons_zero, List.set_cons_succ])
        ((with_reducible refine wpB_move ?_ ?_); exact rfl; simp only [Act.put, List.setIfInBounds_toArray, List.set_cons_zero, List.set_cons_succ])
        apply wpB_val rfl
        · (intro w' hw'; obtain ⟨c0, c1, c2, c3, c4, c5, c6, c7, c8, c9, c10, c11, c12, c13, c14, c15, c16, c17, c18, c19, c20, c21, c22, c23, c24, c25, c26, c27, c28, c29⟩ := HCC.out w' hw'; go_simp; with_reducible rfl)
        simp only [Act.put, List.setIfInBounds_toArray, List.set_cons_zero, List.set_cons_succ]
        apply wpB_val rfl
        · (intro w' hw'; go_simp; with_reducible rfl)
        simp only [Act.put, List.setIfInBounds_toArray, List.set_cons_zero, List.set_cons_succ]
        apply wpB_val rfl
        · (intro w' hw'; obtain ⟨c0, c1, c2, c3, c4, c5, c6, c7, c8, c9, c10, c11, c12, c13, c14, c15, c16, c17, c18, c19, c20, c21, c22, c23, c24, c25, c26, c27, c28, c29⟩ := HCC.out w' hw'; go_simp; with_reducible rfl)
        simp only [Act.put, List.setIfInBounds_toArray, List.set_cons_zero, List.set_cons_succ]
        apply wpB_call 12 #[recV R, .int .u64 (k.k0 : Nat)] rfl (v := _)
        · (intro w'; go_simp)
        · exact fun w' hw' => HS1.out w'
        simp only [Act.put, List.setIfInBounds_toArray, List.set_cons_zero, List.set_cons_succ]
        apply wpB_val rfl
        · (intro w' hw'; obtain ⟨c0, c1, c2, c3, c4, c5, c6, c7, c8, c9, c10, c11, c12, c13, c14, c15, c16, c17, c18, c19, c20, c21, c22, c23, c24, c25, c26, c27, c28, c29⟩ := HCC.out w' hw'; go_simp; with_reducible rfl)
        simp only [Act.put, List.setIfInBounds_toArray, List.set_cons_zero, List.set_cons_succ]
        apply wpB_val rfl
        · (intro w' hw'; go_simp; with_reducible rfl)
        simp only [Act.put, List.setIfInBounds_toArray, List.set_cons_zero, List.set_cons_succ]
        apply wpB_val rfl
        · (intro w' hw'; obtain ⟨c0, c1, c2, c3, c4, c5, c6, c7, c8, c9, c10, c11, c12, c13, c14, c15, c16, c17, c18, c19, c20, c21, c22, c23, c24, c25, c26, c27, c28, c29⟩ := HCC.out w' hw'; go_simp; with_reducible rfl)
        simp only [Act.put, List.setIfInBounds_toArray, List.set_cons_zero, List.set_cons_succ]
        apply wpB_call 12 #[recV r, .int .u64 (k.k0 : Nat)] rfl (v := _)
        · (intro w'; go_simp)
        · exact fun w' hw' => HS2.out w'
        simp only [Act.put, List.setIfInBounds_toArray, List.set_cons_zero, List.set_cons_succ]
        apply wpB_val rfl
        · (intro w' hw'; go_simp; with_reducible rfl)
        simp only [Act.put, List.setIfInBounds_toArray, List.set_cons_zero, List.set_cons_succ]
        apply wpB_val rfl
        · (intro w' hw'; go_simp; with_reducible rfl)
        simp only [Act.put, List.setIfInBounds_toArray, List.set_cons_zero, List.set_cons_succ]
        ((with_reducible refine wpB_move ?_ ?_); exact rfl; simp only [Act.put, List.setIfInBounds_toArray, List.set_cons_zero, List.set_cons_succ])
        apply wpB_val rfl
        · (intro w' hw'; obtain ⟨c0, c1, c2, c3, c4, c5, c6, c7, c8, c9, c10, c11, c12, c13, c14, c15, c16, c17, c18, c19, c20, c21, c22, c23, c24, c25, c26, c27, c28, c29⟩ := HCC.out w' hw'; go_simp; with_reducible rfl)
        simp only [Act.put, List.setIfInBounds_toArray, List.set_cons_zero, List.set_cons_succ]
        apply wpB_val rfl
        · (intro w' hw'; obtain ⟨c0, c1, c2, c3, c4, c5, c6, c7, c8, c9, c10, c11, c12, c13, c14, c15, c16, c17, c18, c19, c20, c21, c22, c23, c24, c25, c26, c27, c28, c29⟩ := HCC.out w' hw'; go_simp; with_reducible rfl)
        simp only [Act.put, List.setIfInBounds_toArray, List.set_cons_zero, List.set_cons_succ]
        apply wpB_call 14 #[recV r, keyV k] rfl (v := _)
        · (intro w'; go_simp)
        · exact fun w' hw' => HC1.out w'
        simp only [Act.put, List.setIfInBounds_toArray, List.set_cons_zero, List.set_cons_succ]
        apply wpB_val rfl
        · (intro w' hw'; go_simp; with_reducible rfl)
        simp only [Act.put, List.setIfInBounds_toArray, List.set_cons_zero, List.set_cons_succ]
        ((with_reducible refine wpB_move ?_ ?_); exact rfl; simp only [Act.put, List.setIfInBounds_toArray, List.set_cons_zero, List.set_cons_succ])
        apply wpB_val rfl
        · (intro w' hw'; obtain ⟨c0, c1, c2, c3, c4, c5, c6, c7, c8, c9, c10, c11, c12, c13, c14, c15, c16, c17, c18, c19, c20, c21, c22, c23, c24, c25, c26, c27, c28, c29⟩ := HCC.out w' hw'; go_simp; with_reducible rfl)
        simp only [Act.put, List.setIfInBounds_toArray, List.set_cons_zero, List.set_cons_succ]
        apply wpB_val rfl
        · (intro w' hw'; obtain ⟨c0, c1, c2, c3, c4, c5, c6, c7, c8, c9, c10, c11, c12, c13, c14, c15, c16, c17, c18, c19, c20, c21, c22, c23, c24, c25, c26, c27, c28, c29⟩ := HCC.out w' hw'; go_simp; with_reducible rfl)
        simp only [Act.put, List.setIfInBounds_toArray, List.set_cons_zero, List.set_cons_succ]
        apply wpB_call 14 #[recV R, keyV k] rfl (v := _)
        · (intro w'; go_simp)
        · exact fun w' hw' => HC2.out w'
        simp only [Act.put, List.setIfInBounds_toArray, List.set_cons_zero, List.set_cons_succ]
        ((with_reducible refine wpB_move ?_ ?_); exact rfl; simp only [Act.put, List.setIfInBounds_toArray, List.set_cons_zero, List.set_cons_succ])
        apply wpB_val rfl
        · (intro w' hw'; go_simp; with_reducible rfl)
        simp only [Act.put, List.setIfInBounds_toArray, List.set_cons_zero, List.set_cons_succ]
        apply wpB_val rfl
        · (intro w' hw'; go_simp; with_reducible rfl)
        simp only [Act.put, List.setIfInBounds_toArray, List.set_cons_zero, List.set_cons_succ]
        apply wpB_val rfl
        · (intro w' hw'; go_simp; with_reducible rfl)
        simp only [Act.put, List.setIfInBounds_toArray, List.set_cons_zero, List.set_cons_succ]
        refine wpB_nil (HR.out _ (fun w2 hw2 => ?_))
        clear HR HCC
        have HB3 := Lib.hid (below_step HBZ.out hw2)
        clear hw2
        go_wp2
        go_ret
        exact ⟨rfl, HB3.out⟩
      · have hcb : (chkC r k == -1) = false := by simpa using hc
        obtain ⟨C, hC⟩ : ∃ C, chkC r k = C := ⟨_, rfl⟩
        rw [hC] at HC1 hcb
        have hcb2 : (C != -1) = true := by rw [bne, hcb]; rfl
        clear hc hC
        go_wp2_with fail
        refine wp_region_B 25 (fun w'' => Below wr.heap.size wr w'') mixed (by kernel_rfl) (below_closed wr) (Below.refl _ _).drew ?_
        simp only [List.take_succ_cons, List.take_zero, List.drop_succ_cons, List.drop_zero]
        intro KR hR
        have HR := Lib.hid hR
        clear hR
        have HCC := Lib.hid (show ∀ w'', Below wr.heap.size wr w'' → w''.cell? ⟨w.heap.size, 0, none⟩ = some (.int .i64 r.se) ∧ w''.cell? ⟨w.heap.size, 1, none⟩ = some (.int .i64 r.ch) ∧ w''.cell? ⟨w.heap.size, 2, none⟩ = some (.int .i64 r.ca) ∧ w''.cell? ⟨w.heap.size, 3, none⟩ = some (.int .i64 r.ho) ∧ w''.cell? ⟨w.heap.size, 4, none⟩ = some (.int .i64 r.hs) ∧ w''.cell? ⟨w.heap.size, 5, none⟩ = some (.int .i64 r.fi) ∧ w''.cell? ⟨w.heap.size, 6, none⟩ = some (.int .i64 r.la) ∧ w''.cell? ⟨w.heap.size, 7, none⟩ = some (.int .i64 r.en) ∧ w''.cell? ⟨w.heap.size, 8, none⟩ = some (.int .i64 r.am) ∧ w''.cell? ⟨w.heap.size, 9, none⟩ = some (.int .u64 (r.g0 : Nat)) ∧ w''.cell? ⟨w.heap.size, 10, none⟩ = some (.int .u64 (r.g1 : Nat)) ∧ w''.cell? ⟨w.heap.size, 11, none⟩ = some (.int .u64 (r.g2 : Nat)) ∧ w''.cell? ⟨w.heap.size, 12, none⟩ = some (.int .u64 (r.g3 : Nat)) ∧ w''.cell? ⟨w.heap.size + 1, 0, none⟩ = some (.int .u64 (k.k0 : Nat)) ∧ w''.cell? ⟨w.heap.size + 1, 1, none⟩ = some (.int .u64 (k.k1 : Nat)) ∧ w''.cell? ⟨w.heap.size + 1, 2, none⟩ = some (.int .u64 (k.k2 : Nat)) ∧ w''.cell? ⟨w.heap.size + 1, 3, none⟩ = some (.int .u64 (k.k3 : Nat)) ∧ w''.cell? ⟨w1.heap.size, 0, none⟩ = some (.int .i64 R.se) ∧ w''.cell? ⟨w1.heap.size, 1, none⟩ = some (.int .i64 R.ch) ∧ w''.cell? ⟨w1.heap.size, 2, none⟩ = some (.int .i64 R.ca) ∧ w''.cell? ⟨w1.heap.size, 3, none⟩ = some (.int .i64 R.ho) ∧ w''.cell? ⟨w1.heap.size, 4, none⟩ = some (.int .i64 R.hs) ∧ w''.cell? ⟨w1.heap.size, 5, none⟩ = some (.int .i64 R.fi) ∧ w''.cell? ⟨w1.heap.size, 6, none⟩ = some (.int .i64 R.la) ∧ w''.cell? ⟨w1.heap.size, 7, none⟩ = some (.int .i64 R.en) ∧ w''.cell? ⟨w1.heap.size, 8, none⟩ = some (.int .i64 R.am) ∧ w''.cell? ⟨w1.heap.size, 9, none⟩ = some (.int .u64 (R.g0 : Nat)) ∧ w''.cell? ⟨w1.heap.size, 10, none⟩ = some (.int .u64 (R.g1 : Nat)) ∧ w''.cell? ⟨w1.heap.size, 11, none⟩ = some (.int .u64 (R.g2 : Nat)) ∧ w''.cell? ⟨w1.heap.size, 12, none⟩ = some (.int .u64 (R.g3 : Nat)) from fun w'' hw => ⟨(HX1.out.later hw).cell 0, (HX1.out.later hw).cell 1, (HX1.out.later hw).cell 2, (HX1.out.later hw).cell 3, (HX1.out.later hw).cell 4, (HX1.out.later hw).cell 5, (HX1.out.later hw).cell 6, (HX1.out.later hw).cell 7, (HX1.out.later hw).cell 8, (HX1.out.later hw).cell 9, (HX1.out.later hw).cell 10, (HX1.out.later hw).cell 11, (HX1.out.later hw).cell 12, (HK1.out.later hw).cell 0, (HK1.out.later hw).cell 1, (HK1.out.later hw).cell 2, (HK1.out.later hw).cell 3, (HC.out.later hw).cell 0, (HC.out.later hw).cell 1, (HC.out.later hw).cell 2, (HC.out.later hw).cell 3, (HC.out.later hw).cell 4, (HC.out.later hw).cell 5, (HC.out.later hw).cell 6, (HC.out.later hw).cell 7, (HC.out.later hw).cell 8, (HC.out.later hw).cell 9, (HC.out.later hw).cell 10, (HC.out.later hw).cell 11, (HC.out.later hw).cell 12⟩)
        ((with_reducible refine wpB_move ?_ ?_); exact rfl; simp only [Act.put, List.setIfInBounds_toArray, List.set_cons_zero, List.set_cons_succ])
        ((with_reducible refine wpB_move ?_ ?_); exact rfl; simp only [Act.put, List.setIfInBounds_toArray, List.set_cons_zero, List.set_cons_succ])
        apply wpB_val rfl
        · (intro w' hw'; obtain ⟨c0, c1, c2, c3, c4, c5, c6, c7, c8, c9, c10, c11, c12, c13, c14, c15, c16, c17, c18, c19, c20, c21, c22, c23, c24, c25, c26, c27, c28, c29⟩ := HCC.out w' hw'; go_simp; with_reducible rfl)
        simp only [Act.put, List.setIfInBounds_toArray, List.set_cons_zero, List.set_cons_succ]
        apply wpB_val rfl
        · (intro w' hw'; go_simp; with_reducible rfl)
        simp only [Act.put, List.setIfInBounds_toArray, List.set_cons_zero, List.set_cons_succ]
        apply wpB_val rfl
        · (intro w' hw'; obtain ⟨c0, c1, c2, c3, c4, c5, c6, c7, c8, c9, c10, c11, c12, c13, c14, c15, c16, c17, c18, c19, c20, c21, c22, c23, c24, c25, c26, c27, c28, c29⟩ := HCC.out w' hw'; go_simp; with_reducible rfl)
        simp only [Act.put, List.setIfInBounds_toArray, List.set_cons_zero, List.set_cons_succ]
        apply wpB_call 12 #[recV R, .int .u64 (k.k0 : Nat)] rfl (v := _)
        · (intro w'; go_simp)
        · exact fun w' hw' => HS1.out w'
        simp only [Act.put, List.setIfInBounds_toArray, List.set_cons_zero, List.set_cons_succ]
        apply wpB_val rfl
        · (intro w' hw'; obtain ⟨c0, c1, c2, c3, c4, c5, c6, c7, c8, c9, c10, c11, c12, c13, c14, c15, c16, c17, c18, c19, c20, c21, c22, c23, c24, c25, c26, c27, c28, c29⟩ := HCC.out w' hw'; go_simp; with_reducible rfl)
        simp only [Act.put, List.setIfInBounds_toArray, List.set_cons_zero, List.set_cons_succ]
        apply wpB_val rfl
        · (intro w' hw'; go_simp; with_reducible rfl)
        simp only [Act.put, List.setIfInBounds_toArray, List.set_cons_zero, List.set_cons_succ]
        apply wpB_val rfl
        · (intro w' hw'; obtain ⟨c0, c1, c2, c3, c4, c5, c6, c7, c8, c9, c10, c11, c12, c13, c14, c15, c16, c17, c18, c19, c20, c21, c22, c23, c24, c25, c26, c27, c28, c29⟩ := HCC.out w' hw'; go_simp; with_reducible rfl)
        simp only [Act.put, List.setIfInBounds_toArray, List.set_cons_zero, List.set_cons_succ]
        apply wpB_call 12 #[recV r, .int .u64 (k.k0 : Nat)] rfl (v := _)
        · (intro w'; go_simp)
        · exact fun w' hw' => HS2.out w'
        simp only [Act.put, List.setIfInBounds_toArray, List.set_cons_zero, List.set_cons_succ]
        apply wpB_val rfl
        · (intro w' hw'; go_simp; with_reducible rfl)
        simp only [Act.put, List.setIfInBounds_toArray, List.set_cons_zero, List.set_cons_succ]
        apply wpB_val rfl
        · (intro w' hw'; go_simp; with_reducible rfl)
        simp only [Act.put, List.setIfInBounds_toArray, List.set_cons_zero, List.set_cons_succ]
        ((with_reducible refine wpB_move ?_ ?_); exact rfl; simp only [Act.put, List.setIfInBounds_toArray, List.set_cons_zero, List.set_cons_succ])
        apply wpB_val rfl
        · (intro w' hw'; obtain ⟨c0, c1, c2, c3, c4, c5, c6, c7, c8, c9, c10, c11, c12, c13, c14, c15, c16, c17, c18, c19, c20, c21, c22, c23, c24, c25, c26, c27, c28, c29⟩ := HCC.out w' hw'; go_simp; with_reducible rfl)
        simp only [Act.put, List.setIfInBounds_toArray, List.set_cons_zero, List.set_cons_succ]
        apply wpB_val rfl
        · (intro w' hw'; obtain ⟨c0, c1, c2, c3, c4, c5, c6, c7, c8, c9, c10, c11, c12, c13, c14, c15, c16, c17, c18, c19, c20, c21, c22, c23, c24, c25, c26, c27, c28, c29⟩ := HCC.out w' hw'; go_simp; with_reducible rfl)
        simp only [Act.put, List.setIfInBounds_toArray, List.set_cons_zero, List.set_cons_succ]
        apply wpB_call 14 #[recV r, keyV k] rfl (v := _)
        · (intro w'; go_simp)
        · exact fun w' hw' => HC1.out w'
        simp only [Act.put, List.setIfInBounds_toArray, List.set_cons_zero, List.set_cons_succ]
        apply wpB_val rfl
        · (intro w' hw'; go_simp; with_reducible rfl)
        simp only [Act.put, List.setIfInBounds_toArray, List.set_cons_zero, List.set_cons_succ]
        ((with_reducible refine wpB_move ?_ ?_); exact rfl; simp only [Act.put, List.setIfInBounds_toArray, List.set_cons_zero, List.set_cons_succ])
        ((with_reducible refine wpB_skip ?_ ?_); exact rfl; simp only [Act.put, List.setIfInBounds_toArray, List.set_cons_zero, List.set_cons_succ])
        ((with_reducible refine wpB_skip ?_ ?_); exact rfl; simp only [Act.put, List.setIfInBounds_toArray, List.set_cons_zero, List.set_cons_succ])
        ((with_reducible refine wpB_skip ?_ ?_); exact rfl; simp only [Act.put, List.setIfInBounds_toArray, List.set_cons_zero, List.set_cons_succ])
        ((with_reducible refine wpB_skip ?_ ?_); exact rfl; simp only [Act.put, List.setIfInBounds_toArray, List.set_cons_zero, List.set_cons_succ])
        ((with_reducible refine wpB_skip ?_ ?_); exact rfl; simp only [Act.put, List.setIfInBounds_toArray, List.set_cons_zero, List.set_cons_succ])
        apply wpB_val rfl
        · (intro w' hw'; go_simp; with_reducible rfl)
        simp only [Act.put, List.setIfInBounds_toArray, List.set_cons_zero, List.set_cons_succ]
        apply wpB_val rfl
        · (intro w' hw'; go_simp; with_reducible rfl)
        simp only [Act.put, List.setIfInBounds_toArray, List.set_cons_zero, List.set_cons_succ]
        refine wpB_nil (HR.out _ (fun w2 hw2 => ?_))
        clear HR HCC
        have HB3 := Lib.hid (below_step HBZ.out hw2)
        clear hw2
        go_wp2
        go_ret
        exact ⟨rfl, HB3.out⟩
end Go.Proofs.Ytddbobphmakmmaa
