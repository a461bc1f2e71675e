/- Chapter 22: Better. -/
import Derived.Test.YtjaeekikddbbeaaWe22
namespace Go.Proofs.Ytjaeekikddbbeaa
open Go.RowKit
attribute [local go_sem] Oper.semAt_some

theorem betGo_neg {x y ms : List Int} {m l b : Int} (h : atI x m < 0 ∨ atI y m < 0) : betGo x y (m :: ms) l b = 0 := by rw [betGo, if_pos h]
theorem betGo_eq {x y ms : List Int} {m l b : Int} (h : ¬ (atI x m < 0 ∨ atI y m < 0)) (he : atI x m = atI y m) : betGo x y (m :: ms) l b = betGo x y ms l b := by rw [betGo, if_neg h, if_pos he]
theorem betGo_new {x y ms : List Int} {m l b : Int} (h : ¬ (atI x m < 0 ∨ atI y m < 0)) (he : ¬ atI x m = atI y m) (hb : b = 0 ∨ min (atI x m) (atI y m) < l) : betGo x y (m :: ms) l b = betGo x y ms (min (atI x m) (atI y m)) (if atI x m < atI y m then -1 else 1) := by rw [betGo, if_neg h, if_neg he, if_pos hb]
theorem betGo_old {x y ms : List Int} {m l b : Int} (h : ¬ (atI x m < 0 ∨ atI y m < 0)) (he : ¬ atI x m = atI y m) (hb : ¬ (b = 0 ∨ min (atI x m) (atI y m) < l)) : betGo x y (m :: ms) l b = betGo x y ms l b := by rw [betGo, if_neg h, if_neg he, if_neg hb]

set_option maxRecDepth 100000 in
set_option maxHeartbeats 8000000 in
theorem Better_any (o o2 o3 : Option Addr) (cap cap2 cap3 : Nat) (x y order : List Int) (w : World) (hx : Ints w o x) (hy : Ints w o2 y) (hr : Ints w o3 order) (hl : order.length ≤ 1000000) : Calls Try.prog 14 #[.slice o x.length cap, .slice o2 y.length cap2, .slice o3 order.length cap3] w (Ret (.int .i64 (bet x y order)) w) := by
  have HX := Lib.hid hx
  have HY := Lib.hid hy
  have HR := Lib.hid hr
  obtain ⟨V, hV⟩ : ∃ V, bet x y order = V := ⟨_, rfl⟩
  rw [hV]
  have HV := Lib.hid hV
  clear hx hy hr hV
  by_cases hxl : x.length = y.length
  rotate_left
  · obtain rfl : V = 0 := by rw [← HV.out, bet, if_neg (fun h => hxl h.1)]
    have h1d : ((x.length : Int) != (y.length : Int)) = true := by simp; omega
    have h1n : (x.length != y.length) = true := by simpa using hxl
    clear hxl
    go_enter Try.func14, Try.ntmps14
    go_wp2
    go_ret
    exact ⟨rfl, Below.refl _ _⟩
  have HXL := Lib.hid hxl
  have h1d : ((x.length : Int) != (y.length : Int)) = false := by simp; omega
  have h1n : (x.length != y.length) = false := by simpa using hxl
  clear hxl
  go_enter Try.func14, Try.ntmps14
  go_wp2_with fail
  refine (isOrder_any o3 cap3 order (x.length : Nat) w HR.out hl).mono ?_
  rintro e w1 ⟨rfl, hb⟩
  have HB := Lib.hid hb
  clear hb
  obtain ⟨Q, hQ⟩ : ∃ Q, isOrd order (x.length : Nat) = Q := ⟨_, rfl⟩
  have HQ := Lib.hid hQ
  rw [hQ]
  clear hQ
  cases Q with
  | false =>
    obtain rfl : V = 0 := by rw [← HV.out, bet, if_neg (fun h => by rw [HQ.out] at h; exact absurd h.2 (by decide))]
    go_wp2
    go_ret
    exact ⟨rfl, HB.out⟩
  | true =>
  have HI := Lib.hid (show betGo x y (order.drop 0) 0 0 = V by rw [← HV.out, bet, if_pos ⟨HXL.out, HQ.out⟩, List.drop_zero])
  have HOR := Lib.hid (isOrd_iff.1 HQ.out).2.1
  clear HV HQ
  go_wp2
  clear h1d h1n
  go_loopw [7, 8, 26] (fun a c i wr => ∃ (k : Nat) (l b : Int), k ≤ order.length ∧ i = .int .i64 k ∧ a = .int .i64 l ∧ c = .int .i64 b ∧ betGo x y (order.drop k) l b = V ∧ Below w.heap.size w wr) (fun _ _ i _ => order.length - (intOf i).toNat)
  case atStart => exact ⟨0, 0, 0, Nat.zero_le _, rfl, rfl, rfl, HI.out, HB.out⟩
  case round =>
    obtain ⟨k, l, b, hk, rfl, rfl, rfl, hz, hb⟩ := hrel
    have HZ := Lib.hid hz
    have HB1 := Lib.hid hb
    clear hz hb HI
    by_cases hlt : k < order.length
    · obtain ⟨g, off, hgo, c0⟩ := (HR.out.later HB1.out) k hlt
      subst hgo
      have HD := Lib.hid (dropI hlt)
      have hmb := HOR.out _ (getD_mem hlt)
      obtain ⟨m, hm⟩ : ∃ m, order.getD k 0 = m := ⟨_, rfl⟩
      rw [hm] at c0 HD hmb
      clear hm
      rw [HD.out] at HZ
      clear HD
      obtain ⟨gx, ox, hgx, d0⟩ := (HX.out.later HB1.out).at hmb
      obtain ⟨gy, oy, hgy, e0⟩ := (HY.out.later HB1.out).at (show 0 ≤ m ∧ m < (y.length : Int) by have := HXL.out; omega)
      subst hgx hgy
      have HN1 := Lib.hid (fun h => (betGo_neg (x := x) (y := y) (ms := order.drop (k + 1)) (m := m) (l := l) (b := b) h).symm.trans HZ.out)
      have HN2 := Lib.hid (fun h he => (betGo_eq (x := x) (y := y) (ms := order.drop (k + 1)) (m := m) (l := l) (b := b) h he).symm.trans HZ.out)
      have HN3 := Lib.hid (fun h he hb => (betGo_new (x := x) (y := y) (ms := order.drop (k + 1)) (m := m) (l := l) (b := b) h he hb).symm.trans HZ.out)
      have HN4 := Lib.hid (fun h he hb => (betGo_old (x := x) (y := y) (ms := order.drop (k + 1)) (m := m) (l := l) (b := b) h he hb).symm.trans HZ.out)
      clear HZ
      obtain ⟨p, hp⟩ : ∃ p, atI x m = p := ⟨_, rfl⟩
      obtain ⟨q, hq⟩ : ∃ q, atI y m = q := ⟨_, rfl⟩
      rw [hp] at d0
      rw [hq] at e0
      rw [hp, hq] at HN1 HN2 HN3 HN4
      clear hp hq
      have hyl : (m : Int) < (y.length : Int) := by have := HXL.out; omega
      obtain ⟨M, rfl⟩ : ∃ M : Nat, m = (M : Int) := ⟨m.toNat, by omega⟩
      have y1 : (0 : Int) ≤ (k : Int) := by omega
      have y2 : (k : Int) < (order.length : Int) := by omega
      have y3 : (0 : Int) ≤ (M : Int) := by omega
      have y4 : (M : Int) < (x.length : Int) := hmb.2
      have y5 : (M : Int) < (y.length : Int) := hyl
      rw [Int.toNat_natCast] at d0 e0
      clear hmb hyl
      by_cases h3 : p < 0
      · obtain rfl : 0 = V := HN1.out (.inl h3)
        have h3d : decide (p < 0) = true := by simpa using h3
        go_wp2
        go_ret
        exact ⟨rfl, HB1.out⟩
      have h3d : decide (p < 0) = false := by simpa using h3
      by_cases h4 : q < 0
      · obtain rfl : 0 = V := HN1.out (.inr h4)
        have h4d : decide (q < 0) = true := by simpa using h4
        go_wp2
        go_ret
        exact ⟨rfl, HB1.out⟩
      have h4d : decide (q < 0) = false := by simpa using h4
      by_cases h5 : p = q
      · have HNX := Lib.hid (HN2.out (by omega) h5)
        subst h5
        clear HN1 HN2 HN3 HN4
        go_wp2_with fail
        go_quiet (fail)
        go_wp2
        go_roundw
        case rel => exact ⟨k + 1, l, b, by omega, by go_num, rfl, rfl, HNX.out, below_drewN HB1.out _⟩
        case measure => simp [intOf]; omega
      have h5d : (p == q) = false := by simpa using h5
      obtain ⟨s, hs⟩ : ∃ s, min p q = s := ⟨_, rfl⟩
      have HC0 := Lib.hid d0
      have HC1 := Lib.hid e0
      rw [hs] at HN3 HN4
      go_wp2_with fail
      go_quiet (fail)
      go_wp2_with fail
      clear h3d h4d h5d
      generalize hW5 : World.drewN wr _ = W5
      have HB5 := Lib.hid (show Below wr.heap.size wr W5 by rw [← hW5]; exact below_drewN (Below.refl _ _) _)
      clear hW5 d0 e0 c0
      by_cases hpq : p < q
      · skip
        obtain rfl : p = s := by omega
        have t1 : decide (p < q) = true := by rw [decide_eq_true_eq]; exact hpq
        have t2 : decide (q < p) = false := by rw [decide_eq_false_iff_not]; omega
        have t3 : decide (p ≤ q) = true := by rw [decide_eq_true_eq]; omega
        have t4 : decide (q ≤ p) = false := by rw [decide_eq_false_iff_not]; omega
        have hmin : min p q = p := by omega
        have hmin2 : (if p ≤ q then p else q) = p := by rw [if_pos (by omega)]
        have hqp : ¬ q < p := by omega
        clear hs
        refine wp_region_B 10 (fun w'' => Below W5.heap.size W5 w'') mixed (by kernel_rfl) (below_closed W5) (Below.refl _ _).drew ?_
        simp only [List.take_succ_cons, List.take_zero, List.drop_succ_cons, List.drop_zero]
        intro KR hR
        have HR := Lib.hid hR
        clear hR
        have HCC := Lib.hid (show ∀ w'', Below W5.heap.size W5 w'' → w''.cell? ⟨gx, ox + M, none⟩ = some (.int .i64 p) ∧ w''.cell? ⟨gy, oy + M, none⟩ = some (.int .i64 q) from fun w'' hw => ⟨cell_kept (below_step HB5.out hw) HC0.out, cell_kept (below_step HB5.out hw) HC1.out⟩)
        apply wpB_val rfl
        · (intro w' hw'; go_simp; with_reducible rfl)
        simp only [Act.put, List.setIfInBounds_toArray, List.set_cons_zero, List.set_cons_succ]
        apply wpB_val rfl
        · (intro w' hw'; go_simp; with_reducible rfl)
        simp only [Act.put, List.setIfInBounds_toArray, List.set_cons_zero, List.set_cons_succ]
        apply wpB_val rfl
        · (intro w' hw'; go_simp; with_reducible rfl)
        simp only [Act.put, List.setIfInBounds_toArray, List.set_cons_zero, List.set_cons_succ]
        apply wpB_val rfl
        · (intro w' hw'; obtain ⟨c0, c1⟩ := HCC.out w' hw'; go_simp; with_reducible rfl)
        simp only [Act.put, List.setIfInBounds_toArray, List.set_cons_zero, List.set_cons_succ]
        apply wpB_val rfl
        · (intro w' hw'; go_simp; with_reducible rfl)
        simp only [Act.put, List.setIfInBounds_toArray, List.set_cons_zero, List.set_cons_succ]
        apply wpB_val rfl
        · (intro w' hw'; go_simp; with_reducible rfl)
        simp only [Act.put, List.setIfInBounds_toArray, List.set_cons_zero, List.set_cons_succ]
        apply wpB_val rfl
        · (intro w' hw'; go_simp; with_reducible rfl)
        simp only [Act.put, List.setIfInBounds_toArray, List.set_cons_zero, List.set_cons_succ]
        apply wpB_val rfl
        · (intro w' hw'; obtain ⟨c0, c1⟩ := HCC.out w' hw'; go_simp; with_reducible rfl)
        simp only [Act.put, List.setIfInBounds_toArray, List.set_cons_zero, List.set_cons_succ]
        apply wpB_val rfl
        · (intro w' hw'; go_simp; with_reducible rfl)
        simp only [Act.put, List.setIfInBounds_toArray, List.set_cons_zero, List.set_cons_succ]
        apply wpB_val rfl
        · (intro w' hw'; go_simp; with_reducible rfl)
        simp only [Act.put, List.setIfInBounds_toArray, List.set_cons_zero, List.set_cons_succ]
        refine wpB_nil (HR.out _ (fun w2 hw2 => ?_))
        clear HR HCC
        clear hmin hmin2 t3 t4
        have HB6 := Lib.hid (below_step HB5.out hw2)
        have HB7 := Lib.hid (below_step HB1.out HB6.out)
        clear hw2 HB5
        by_cases h6 : b = 0 ∨ p < l
        · have HNX := Lib.hid (HN3.out (by omega) h5 h6)
          rw [if_pos hpq] at HNX
          have d0 := cell_kept HB6.out HC0.out
          have e0 := cell_kept HB6.out HC1.out
          by_cases h7 : b = 0
          · subst h7
            clear h6 HN1 HN2 HN3 HN4
            go_wp2_with fail
            go_quiet (fail)
            go_wp2
            go_roundw
            case rel => exact ⟨k + 1, p, -1, by omega, by go_num, rfl, rfl, HNX.out, below_drewN HB7.out _⟩
            case measure => simp [intOf]; omega
          · have h7d : (b == 0) = false := by simpa using h7
            have h8d : decide (p < l) = true := by rw [decide_eq_true_eq]; omega
            clear h6 h7 HN1 HN2 HN3 HN4
            go_wp2_with fail
            go_quiet (fail)
            go_wp2
            go_roundw
            case rel => exact ⟨k + 1, p, -1, by omega, by go_num, rfl, rfl, HNX.out, below_drewN HB7.out _⟩
            case measure => simp [intOf]; omega
        · have HNX := Lib.hid (HN4.out (by omega) h5 h6)
          have h7d : (b == 0) = false := by have : ¬ b = 0 := fun e => h6 (.inl e); simpa using this
          have h8d : decide (p < l) = false := by have : ¬ p < l := fun e => h6 (.inr e); simpa using this
          clear h6 HN1 HN2 HN3 HN4
          go_wp2
          go_roundw
          case rel => exact ⟨k + 1, l, b, by omega, by go_num, rfl, rfl, HNX.out, HB7.out⟩
          case measure => simp [intOf]; omega
      · skip
        obtain rfl : q = s := by omega
        have t1 : decide (p < q) = false := by rw [decide_eq_false_iff_not]; omega
        have t2 : decide (q < p) = true := by rw [decide_eq_true_eq]; omega
        have t3 : decide (p ≤ q) = false := by rw [decide_eq_false_iff_not]; omega
        have t4 : decide (q ≤ p) = true := by rw [decide_eq_true_eq]; omega
        have hmin : min p q = q := by omega
        have hmin2 : (if p ≤ q then p else q) = q := by rw [if_neg (by omega)]
        have hqp : q < p := by omega
        clear hs
        refine wp_region_B 10 (fun w'' => Below W5.heap.size W5 w'') mixed (by kernel_rfl) (below_closed W5) (Below.refl _ _).drew ?_
        simp only [List.take_succ_cons, List.take_zero, List.drop_succ_cons, List.drop_zero]
        intro KR hR
        have HR := Lib.hid hR
        clear hR
        have HCC := Lib.hid (show ∀ w'', Below W5.heap.size W5 w'' → w''.cell? ⟨gx, ox + M, none⟩ = some (.int .i64 p) ∧ w''.cell? ⟨gy, oy + M, none⟩ = some (.int .i64 q) from fun w'' hw => ⟨cell_kept (below_step HB5.out hw) HC0.out, cell_kept (below_step HB5.out hw) HC1.out⟩)
        apply wpB_val rfl
        · (intro w' hw'; go_simp; with_reducible rfl)
        simp only [Act.put, List.setIfInBounds_toArray, List.set_cons_zero, List.set_cons_succ]
        apply wpB_val rfl
        · (intro w' hw'; go_simp; with_reducible rfl)
        simp only [Act.put, List.setIfInBounds_toArray, List.set_cons_zero, List.set_cons_succ]
        apply wpB_val rfl
        · (intro w' hw'; go_simp; with_reducible rfl)
        simp only [Act.put, List.setIfInBounds_toArray, List.set_cons_zero, List.set_cons_succ]
        apply wpB_val rfl
        · (intro w' hw'; obtain ⟨c0, c1⟩ := HCC.out w' hw'; go_simp; with_reducible rfl)
        simp only [Act.put, List.setIfInBounds_toArray, List.set_cons_zero, List.set_cons_succ]
        apply wpB_val rfl
        · (intro w' hw'; go_simp; with_reducible rfl)
        simp only [Act.put, List.setIfInBounds_toArray, List.set_cons_zero, List.set_cons_succ]
        apply wpB_val rfl
        · (intro w' hw'; go_simp; with_reducible rfl)
        simp only [Act.put, List.setIfInBounds_toArray, List.set_cons_zero, List.set_cons_succ]
        apply wpB_val rfl
        · (intro w' hw'; go_simp; with_reducible rfl)
        simp only [Act.put, List.setIfInBounds_toArray, List.set_cons_zero, List.set_cons_succ]
        apply wpB_val rfl
        · (intro w' hw'; obtain ⟨c0, c1⟩ := HCC.out w' hw'; go_simp; with_reducible rfl)
        simp only [Act.put, List.setIfInBounds_toArray, List.set_cons_zero, List.set_cons_succ]
        apply wpB_val rfl
        · (intro w' hw'; go_simp; with_reducible rfl)
        simp only [Act.put, List.setIfInBounds_toArray, List.set_cons_zero, List.set_cons_succ]
        apply wpB_val rfl
        · (intro w' hw'; go_simp; with_reducible rfl)
        simp only [Act.put, List.setIfInBounds_toArray, List.set_cons_zero, List.set_cons_succ]
        refine wpB_nil (HR.out _ (fun w2 hw2 => ?_))
        clear HR HCC
        clear hmin hmin2 t3 t4
        have HB6 := Lib.hid (below_step HB5.out hw2)
        have HB7 := Lib.hid (below_step HB1.out HB6.out)
        clear hw2 HB5
        by_cases h6 : b = 0 ∨ q < l
        · have HNX := Lib.hid (HN3.out (by omega) h5 h6)
          rw [if_neg hpq] at HNX
          have d0 := cell_kept HB6.out HC0.out
          have e0 := cell_kept HB6.out HC1.out
          by_cases h7 : b = 0
          · subst h7
            clear h6 HN1 HN2 HN3 HN4
            go_wp2_with fail
            go_quiet (fail)
            go_wp2
            go_roundw
            case rel => exact ⟨k + 1, q, 1, by omega, by go_num, rfl, rfl, HNX.out, below_drewN HB7.out _⟩
            case measure => simp [intOf]; omega
          · have h7d : (b == 0) = false := by simpa using h7
            have h8d : decide (q < l) = true := by rw [decide_eq_true_eq]; omega
            clear h6 h7 HN1 HN2 HN3 HN4
            go_wp2_with fail
            go_quiet (fail)
            go_wp2
            go_roundw
            case rel => exact ⟨k + 1, q, 1, by omega, by go_num, rfl, rfl, HNX.out, below_drewN HB7.out _⟩
            case measure => simp [intOf]; omega
        · have HNX := Lib.hid (HN4.out (by omega) h5 h6)
          have h7d : (b == 0) = false := by have : ¬ b = 0 := fun e => h6 (.inl e); simpa using this
          have h8d : decide (q < l) = false := by have : ¬ q < l := fun e => h6 (.inr e); simpa using this
          clear h6 HN1 HN2 HN3 HN4
          go_wp2
          go_roundw
          case rel => exact ⟨k + 1, l, b, by omega, by go_num, rfl, rfl, HNX.out, HB7.out⟩
          case measure => simp [intOf]; omega
    · obtain rfl : k = order.length := by omega
      obtain rfl : b = V := by rw [← HZ.out, List.drop_length]; rfl
      go_wp2
      go_ret
      exact ⟨rfl, HB1.out⟩
end Go.Proofs.Ytjaeekikddbbeaa
