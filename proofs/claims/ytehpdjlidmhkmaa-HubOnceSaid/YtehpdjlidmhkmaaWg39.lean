/- Chapter 39: Of, Same of the reference. -/
import Derived.Test.YtehpdjlidmhkmaaWf39
namespace Go.Proofs.Ytehpdjlidmhkmaa
open Go.RowKit
attribute [local go_sem] Oper.semAt_some

def OfOut (l : List Bx) (f : Int) (w : World) (e : Ending) (w' : World) : Prop :=
  Below w.heap.size w w' ∧ ∃ (o : Option Addr) (cap : Nat), e = .returned (.tuple #[bxV (ofF l f) o cap, .bool (hasF l f)]) ∧ Msgs w' o (ofF l f).ws ∧ (ofF l f).ws.length ≤ cap ∧ (ofF l f).ws.length ≤ 6000000000000

theorem ofF_cons_eq {x : Bx} {xs : List Bx} {f : Int} (h : x.f = f) : ofF (x :: xs) f = x ∧ hasF (x :: xs) f = true := by rw [ofF, hasF, if_pos h, if_pos h]; exact ⟨rfl, rfl⟩
theorem ofF_cons_ne {x : Bx} {xs : List Bx} {f : Int} (h : ¬ x.f = f) : ofF (x :: xs) f = ofF xs f ∧ hasF (x :: xs) f = hasF xs f := by rw [ofF, hasF, if_neg h, if_neg h]; exact ⟨rfl, rfl⟩

set_option maxHeartbeats 4000000 in
theorem Of_any (o : Option Addr) (cap : Nat) (l : List Bx) (f : Int) (w : World) (hr : Bxs w o l) (hl : l.length ≤ 9000000000000000000) : Calls Try.prog 22 #[.slice o l.length cap, .int .i64 f] w (OfOut l f w) := by
  have HR := Lib.hid hr
  clear hr
  go_enter Try.func22, Try.ntmps22
  go_wp2
  go_loop [6] (fun i => ∃ k : Nat, k ≤ l.length ∧ i = .int .i64 k ∧ ofF l f = ofF (l.drop k) f ∧ hasF l f = hasF (l.drop k) f) (fun i => l.length - (intOf i).toNat)
  case atStart => exact ⟨0, Nat.zero_le _, rfl, rfl, rfl⟩
  case round =>
    obtain ⟨k, hk, rfl, hz1, hz2⟩ := hrel
    have HZ := Lib.hid (And.intro hz1 hz2)
    clear hz1 hz2
    by_cases hlt : k < l.length
    · obtain ⟨b, off, hbo, oo, cp, hw1, hw2, hms, c0, c1, c2⟩ := (HR.out.later (below_alloc (Below.refl _ _) (.cells #[.int .i64 0, .int .i64 0, .slice none 0 0] 42))) k hlt
      clear hms
      have hbl : b < w.heap.size ∧ Msgs w oo (getB l k).ws := by
        obtain ⟨b', off', hbo', oo', cp', _, _, hms', c0', c1', c2'⟩ := HR.out k hlt
        rw [hbo] at hbo'
        injection hbo' with h1
        injection h1 with h1 h2
        subst h1
        subst h2
        have h3 := cell_kept (below_alloc (Below.refl _ _) (.cells #[.int .i64 0, .int .i64 0, .slice none 0 0] 42)) c2'
        rw [c2] at h3
        injection h3 with h3
        injection h3 with h3
        rw [h3]
        exact ⟨cell_lt c0', hms'⟩
      obtain ⟨hbl, hms⟩ := hbl
      subst hbo
      have HD := Lib.hid (dropB hlt)
      obtain ⟨x, hx⟩ : ∃ x, getB l k = x := ⟨_, rfl⟩
      rw [hx] at c0 c1 c2 HD hw1 hw2 hms
      have HMS := Lib.hid hms
      clear hx hms
      have y1 : (0 : Int) ≤ (k : Int) := by omega
      have y2 : (k : Int) < (l.length : Int) := by omega
      by_cases hf : x.f = f
      · have HO := Lib.hid (show ofF l f = x ∧ hasF l f = true by rw [HZ.out.1, HZ.out.2, HD.out]; exact ofF_cons_eq hf)
        subst hf
        go_wp2
        exact bodyPost_ret (v := .tuple #[bxV x oo cp, .bool true]) (by simp [results, Try.results22, go_sem]) rfl ⟨by go_grown, oo, cp, by rw [HO.out.1, HO.out.2], by rw [HO.out.1]; exact HMS.out.later (by go_grown), by rw [HO.out.1]; exact hw2, by rw [HO.out.1]; exact hw1⟩
      · have HO := Lib.hid (show ofF l f = ofF (l.drop (k + 1)) f ∧ hasF l f = hasF (l.drop (k + 1)) f by rw [HZ.out.1, HZ.out.2, HD.out]; exact ofF_cons_ne hf)
        have hfb : (x.f == f) = false := by simpa using hf
        clear hf
        go_wp2
        go_round
        case rel => exact ⟨k + 1, by omega, by go_num, HO.out.1, HO.out.2⟩
        case measure => simp [intOf]; omega
    · obtain rfl : k = l.length := by omega
      have HO := Lib.hid (show ofF l f = ⟨f, 1, []⟩ ∧ hasF l f = false by rw [HZ.out.1, HZ.out.2, List.drop_length]; exact ⟨rfl, rfl⟩)
      go_wp2
      exact bodyPost_ret (v := .tuple #[bxV ⟨f, 1, []⟩ none 0, .bool false]) (by simp [results, Try.results22, go_sem]) rfl ⟨by go_grown, none, 0, by rw [HO.out.1, HO.out.2], by rw [HO.out.1]; exact Msgs.nil, by rw [HO.out.1]; simp, by rw [HO.out.1]; simp⟩

theorem Bx.ne_parts {x y : Bx} (h : x ≠ y) : ¬ x.ws = y.ws ∨ (x.ws = y.ws ∧ ¬ x.f = y.f) ∨ (x.ws = y.ws ∧ x.f = y.f ∧ ¬ x.x = y.x) := by
  obtain ⟨f, n, b⟩ := x
  obtain ⟨f', n', b'⟩ := y
  by_cases h1 : f = f' <;> by_cases h2 : n = n' <;> by_cases h3 : b = b' <;> simp_all
set_option maxHeartbeats 8000000 in
theorem sameB_any (oa ob : Option Addr) (ca cb : Nat) (la lb : List Bx) (w : World) (ha : Bxs w oa la) (hb : Bxs w ob lb) (hla : la.length ≤ 9223372036854775807) : Calls Try.prog 14 #[.slice oa la.length ca, .slice ob lb.length cb] w (Ret (.bool (decide (la = lb))) w) := by
  have HA := Lib.hid ha
  have HB := Lib.hid hb
  clear ha hb
  obtain ⟨V, hV⟩ : ∃ V, decide (la = lb) = V := ⟨_, rfl⟩
  rw [hV]
  have HV := Lib.hid hV
  clear hV
  by_cases hll : la.length = lb.length
  · go_enter Try.func14, Try.ntmps14
    rw [← hll]
    have HLL := Lib.hid hll
    clear hll
    go_wp2
    go_loopw [5] (fun i wr => ∃ k : Nat, k ≤ la.length ∧ i = .int .i64 k ∧ (∀ j, j < k → getB la j = getB lb j) ∧ Below w.heap.size w wr) (fun i _ => la.length - (intOf i).toNat)
    case atStart => exact ⟨0, Nat.zero_le _, rfl, fun j hj => absurd hj (by omega), Below.refl _ _⟩
    case round =>
      obtain ⟨k, hk, rfl, hri, hbel⟩ := hrel
      have HRI := Lib.hid hri
      have HBL := Lib.hid hbel
      clear hri hbel
      by_cases hlt : k < la.length
      · obtain ⟨b1, o1, h1, hx⟩ := (HA.out.later HBL.out) k hlt
        obtain ⟨b2, o2, h2, hy⟩ := (HB.out.later HBL.out) k (by rw [← HLL.out]; exact hlt)
        subst h1 h2
        obtain ⟨x, hxe⟩ : ∃ x, getB la k = x := ⟨_, rfl⟩
        obtain ⟨y, hye⟩ : ∃ y, getB lb k = y := ⟨_, rfl⟩
        rw [hxe] at hx
        rw [hye] at hy
        have HXE := Lib.hid hxe
        have HYE := Lib.hid hye
        obtain ⟨oo1, cp1, hw1, _, hm1, c0, c1, c2⟩ := hx
        obtain ⟨oo2, cp2, hw2, _, hm2, d0, d1, d2⟩ := hy
        have HS := Lib.hid (fun w' (hw' : Below wr.heap.size wr w') => sameM_any oo1 oo2 cp1 cp2 x.ws y.ws w' (hm1.later hw') (hm2.later hw') (by omega))
        clear hxe hye hm1 hm2
        have y1 : (0 : Int) ≤ (k : Int) := by omega
        have y2 : (k : Int) < (la.length : Int) := by omega
        go_wp2_with fail
        refine wp_region_B 11 (fun w'' => Below wr.heap.size wr w'') mixed (by kernel_rfl) (below_closed wr) (Below.refl _ _).drew ?_
        simp only [List.take_succ_cons, List.take_zero, List.drop_succ_cons, List.drop_zero]
        intro KR hR
        have HR := Lib.hid hR
        clear hR
        have HCC := Lib.hid (show ∀ w'', Below wr.heap.size wr w'' → w''.cell? ⟨b1, o1 + k * 3 + 2, none⟩ = some (.slice oo1 x.ws.length cp1) ∧ w''.cell? ⟨b2, o2 + k * 3 + 2, none⟩ = some (.slice oo2 y.ws.length cp2) from fun w'' hw => ⟨cell_kept hw c2, cell_kept hw d2⟩)
        iterate 10 (first
          | ((with_reducible refine wpB_move ?_ ?_); exact rfl; simp only [Act.put, List.setIfInBounds_toArray, List.set_cons_zero, List.set_cons_succ])
          | (apply wpB_val rfl
             · (intro w' hw'; obtain ⟨e0, e1⟩ := HCC.out w' hw'; go_simp; with_reducible rfl)
             simp only [Act.put, List.setIfInBounds_toArray, List.set_cons_zero, List.set_cons_succ]))
        apply wpB_call 15 #[.slice oo1 x.ws.length cp1, .slice oo2 y.ws.length cp2] rfl (v := .bool (decide (x.ws = y.ws)))
        · (intro w'; go_simp)
        · exact fun w' hw' => HS.out w' hw'
        simp only [Act.put, List.setIfInBounds_toArray, List.set_cons_zero, List.set_cons_succ]
        refine wpB_nil (HR.out _ (fun w2 hw2 => ?_))
        replace c0 := cell_kept hw2 c0
        replace c1 := cell_kept hw2 c1
        replace d0 := cell_kept hw2 d0
        replace d1 := cell_kept hw2 d1
        have HBL2 := Lib.hid (below_step HBL.out hw2)
        clear HR HCC hw2 c2 d2 HS
        by_cases hxy : x = y
        · subst hxy
          obtain ⟨D, hD⟩ : ∃ D, decide (x.ws = x.ws) = D := ⟨_, rfl⟩
          rw [hD]
          obtain rfl : true = D := by rw [← hD]; simp
          clear hD
          go_wp2_with fail
          go_quiet (fail)
          go_wp2
          go_roundw
          case rel => exact ⟨k + 1, by omega, by go_num, fun j hj => by rcases Nat.lt_or_eq_of_le (Nat.le_of_lt_succ hj) with h | rfl; exact HRI.out j h; rw [HXE.out, HYE.out], below_drewN HBL2.out _⟩
          case measure => simp [intOf]; omega
        · obtain rfl : false = V := by
            rw [← HV.out]
            symm
            rw [decide_eq_false_iff_not]
            intro e
            subst e
            exact hxy (HXE.out.symm.trans HYE.out)
          obtain ⟨D, hD⟩ : ∃ D, decide (x.ws = y.ws) = D := ⟨_, rfl⟩
          rw [hD]
          rcases Bx.ne_parts hxy with h | ⟨h, h1⟩ | ⟨h, h1, h2⟩
          · obtain rfl : false = D := by rw [← hD]; simp [h]
            clear hD hxy h
            go_wp2_with fail
            go_quiet (fail)
            go_wp2
            go_ret
            exact ⟨rfl, below_drewN HBL2.out _⟩
          · obtain rfl : true = D := by rw [← hD]; simp [h]
            have hne : (x.f != y.f) = true := by simpa using h1
            clear hD hxy h h1
            go_wp2_with fail
            go_quiet (fail)
            go_wp2
            go_ret
            exact ⟨rfl, below_drewN HBL2.out _⟩
          · obtain rfl : true = D := by rw [← hD]; simp [h]
            rw [h1] at c0
            have hne : (x.x != y.x) = true := by simpa using h2
            clear hD hxy h h1 h2
            go_wp2_with fail
            go_quiet (fail)
            go_wp2
            go_ret
            exact ⟨rfl, below_drewN HBL2.out _⟩
      · obtain rfl : k = la.length := by omega
        obtain rfl : true = V := by rw [← HV.out]; symm; rw [decide_eq_true_eq]; exact eq_of_getB HLL.out HRI.out
        go_wp2
        go_ret
        exact ⟨rfl, HBL.out⟩
  · obtain rfl : false = V := by
      rw [← HV.out]
      symm
      rw [decide_eq_false_iff_not]
      intro e
      exact hll (by rw [e])
    have hli : ¬ (la.length : Int) = (lb.length : Int) := by omega
    go_enter Try.func14, Try.ntmps14
    go_wp2
    go_ret
    exact ⟨rfl, Below.refl _ _⟩
end Go.Proofs.Ytehpdjlidmhkmaa
