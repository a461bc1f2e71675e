/- Chapter 39: put of the reference. -/
import Derived.Test.YtehpdjlidmhkmaaWh39
namespace Go.Proofs.Ytehpdjlidmhkmaa
open Go.RowKit
attribute [local go_sem] Oper.semAt_some

theorem Cells.atB {w : World} {o : Option Addr} {ls : List BxA} {i : Nat} (h : Cells w o (flatB ls)) (hi : i < ls.length) : ∃ b off, o = some ⟨b, off, none⟩ ∧ w.cell? ⟨b, off + i * 3, none⟩ = some (.int .i64 (getA ls i).b.f) ∧ w.cell? ⟨b, off + i * 3 + 1, none⟩ = some (.int .i64 (getA ls i).b.x) ∧ w.cell? ⟨b, off + i * 3 + 2, none⟩ = some (.slice (getA ls i).o (getA ls i).b.ws.length (getA ls i).cap) := by
  obtain ⟨g0, g1, g2⟩ := flatB_get ls i hi
  obtain ⟨b, off, ho, c0⟩ := h _ _ g0
  obtain ⟨b1, off1, ho1, c1⟩ := h _ _ g1
  obtain ⟨b2, off2, ho2, c2⟩ := h _ _ g2
  rw [ho] at ho1 ho2
  injection ho1 with ho1
  injection ho1 with e1 e2
  injection ho2 with ho2
  injection ho2 with e3 e4
  subst e1; subst e2; subst e3; subst e4
  exact ⟨b, off, ho, c0, c1, c2⟩
theorem dropA {l : List BxA} {k : Nat} (h : k < l.length) : l.drop k = getA l k :: l.drop (k + 1) := by
  rw [List.drop_eq_getElem_cons h]
  simp [getA, h]

def pA : List BxA → BxA → Bool → List BxA
  | [], x, d => if d then [] else [x]
  | y :: ys, x, true => if y.b.f = x.b.f then pA ys x true else y :: pA ys x true
  | y :: ys, x, false => if y.b.f < x.b.f then y :: pA ys x false else if y.b.f = x.b.f then x :: pA ys x true else x :: y :: pA ys x true
theorem pA_true {x : BxA} : ∀ {ls : List BxA} {p : Int}, fromsOk p (bxs ls) = true → x.b.f ≤ p → pA ls x true = ls
  | [], _, _, _ => rfl
  | y :: ys, p, h, hp => by
    have h' : fromsOk p (y.b :: bxs ys) = true := h
    rw [fromsOk_cons] at h'
    rw [pA, if_neg (by omega), pA_true h'.2.2 (by omega)]
theorem pA_put {x : BxA} : ∀ {ls : List BxA} {p : Int}, fromsOk p (bxs ls) = true → bxs (pA ls x false) = put (bxs ls) x.b
  | [], _, _ => rfl
  | y :: ys, p, h => by
    have h' : fromsOk p (y.b :: bxs ys) = true := h
    rw [fromsOk_cons] at h'
    show _ = put (y.b :: bxs ys) x.b
    rw [pA, put]
    by_cases h1 : y.b.f < x.b.f
    · rw [if_pos h1, if_neg (by omega), if_neg (by omega), ← pA_put h'.2.2]
      rfl
    · rw [if_neg h1]
      by_cases h2 : y.b.f = x.b.f
      · rw [if_pos h2, if_neg (by omega), if_pos h2.symm, pA_true h'.2.2 (by omega)]
        rfl
      · rw [if_neg h2, if_pos (by omega), pA_true h'.2.2 (by omega)]
        rfl
theorem pA_mem {x a : BxA} : ∀ {ls : List BxA} {d : Bool}, a ∈ pA ls x d → a = x ∨ a ∈ ls
  | [], d, h => by
    rw [pA] at h
    split at h
    · cases h
    · simp at h; exact .inl h
  | y :: ys, true, h => by
    rw [pA] at h
    split at h
    · rcases pA_mem h with h | h
      · exact .inl h
      · exact .inr (List.mem_cons_of_mem _ h)
    · rcases List.mem_cons.1 h with h | h
      · exact .inr (h ▸ List.mem_cons_self ..)
      · rcases pA_mem h with h | h
        · exact .inl h
        · exact .inr (List.mem_cons_of_mem _ h)
  | y :: ys, false, h => by
    rw [pA] at h
    split at h
    · rcases List.mem_cons.1 h with h | h
      · exact .inr (h ▸ List.mem_cons_self ..)
      · rcases pA_mem h with h | h
        · exact .inl h
        · exact .inr (List.mem_cons_of_mem _ h)
    · split at h
      · rcases List.mem_cons.1 h with h | h
        · exact .inl h
        · rcases pA_mem h with h | h
          · exact .inl h
          · exact .inr (List.mem_cons_of_mem _ h)
      · rcases List.mem_cons.1 h with h | h
        · exact .inl h
        · rcases List.mem_cons.1 h with h | h
          · exact .inr (h ▸ List.mem_cons_self ..)
          · rcases pA_mem h with h | h
            · exact .inl h
            · exact .inr (List.mem_cons_of_mem _ h)

def OutB (l : List Bx) (w : World) (e : Ending) (w' : World) : Prop :=
  Below w.heap.size w w' ∧ ∃ (o : Option Addr) (cap : Nat), e = .returned (.slice o l.length cap) ∧ Bxs w' o l ∧ l.length ≤ cap

set_option maxHeartbeats 16000000 in
theorem put_any (o : Option Addr) (cap : Nat) (l : List Bx) (x : BxA) (w : World) (hr : Bxs w o l) (hl : l.length ≤ 1000) (hx : GoodA w x) (hok : fromsOk (-1) l = true) : Calls Try.prog 36 #[.slice o l.length cap, bxV x.b x.o x.cap] w (OutB (put l x.b) w) := by
  obtain ⟨ls, rfl, hgood, hcs⟩ := hr.open
  have HP := Lib.hid (pA_put (x := x) hok)
  have HGD := Lib.hid hgood
  have HC := Lib.hid hcs
  have HX := Lib.hid hx
  clear hr hok hgood hcs hx
  rw [bxs_length] at hl ⊢
  have HLAST : Hid (∀ (w' : World) (v : Value) (n : Nat) (out : List BxA), out.length = n → pA ls x false = out → Row w w' 42 3 v n (flatB out) → OutB (put (bxs ls) x.b) w (.returned v) w') := by
    refine Lib.hid ?_
    intro w' v n out hn hpa hrow
    obtain ⟨oo, cp, rfl, hcp⟩ := hrow.shape
    subst hn
    rw [← HP.out, hpa]
    refine ⟨hrow.below, oo, cp, by rw [bxs_length], hrow.bxs (fun a ha => ?_), by rw [bxs_length]; exact hcp⟩
    rw [← hpa] at ha
    rcases pA_mem ha with rfl | ha
    · exact HX.out.later hrow.below
    · exact (HGD.out a ha).later hrow.below
  clear HP
  go_enter Try.func36, Try.ntmps36
  go_wp2
  have HG0 := Lib.hid (Grow.new w 42 3 42 #[.int .i64 x.b.f, .int .i64 x.b.x, .slice x.o x.b.ws.length x.cap])
  go_loopw [5, 6, 7] (fun v d i wr => ∃ (k n : Nat) (done : Bool) (out : List BxA), k ≤ ls.length ∧ n ≤ k + 1 ∧ (done = false → n ≤ k) ∧ out.length = n ∧ i = .int .i64 k ∧ d = .bool done ∧ pA ls x false = out ++ pA (ls.drop k) x done ∧ Grow w wr 42 3 42 #[.int .i64 x.b.f, .int .i64 x.b.x, .slice x.o x.b.ws.length x.cap] v n (flatB out)) (fun _ _ i _ => ls.length - (intOf i).toNat)
  case atStart => exact ⟨0, 0, false, [], Nat.zero_le _, by omega, fun _ => Nat.le_refl _, rfl, rfl, rfl, rfl, HG0.out⟩
  case round =>
    obtain ⟨k, n, done, out, hk, hn, hnd, hol, rfl, rfl, hz, hg⟩ := hrel
    have HND := Lib.hid hnd
    have HZ := Lib.hid hz
    have HG := Lib.hid hg
    have HOL := Lib.hid hol
    clear hz hg hol HG0 hnd
    have m0 : wr.cell? ⟨w.heap.size, 0, none⟩ = some (.int .i64 x.b.f) := HG.out.blk.cell 0
    have m1 : wr.cell? ⟨w.heap.size, 1, none⟩ = some (.int .i64 x.b.x) := HG.out.blk.cell 1
    have m2 : wr.cell? ⟨w.heap.size, 2, none⟩ = some (.slice x.o x.b.ws.length x.cap) := HG.out.blk.cell 2
    by_cases hlt : k < ls.length
    · obtain ⟨g, off, hgo, c0, c1, c2⟩ := (HC.out.later HG.out.below).atB hlt
      subst hgo
      have HD := Lib.hid (dropA hlt)
      have HCY := Lib.hid (fun (w' : World) (hw' : Below w.heap.size w w') => show w'.cell? ⟨g, off + k * 3, none⟩ = some (.int .i64 (getA ls k).b.f) ∧ w'.cell? ⟨g, off + k * 3 + 1, none⟩ = some (.int .i64 (getA ls k).b.x) ∧ w'.cell? ⟨g, off + k * 3 + 2, none⟩ = some (.slice (getA ls k).o (getA ls k).b.ws.length (getA ls k).cap) from by
        obtain ⟨g', off', hgo', h⟩ := (HC.out.later hw').atB hlt
        injection hgo' with hgo'
        injection hgo' with e1 e2
        subst e1
        subst e2
        exact h)
      obtain ⟨y, hy⟩ : ∃ y, getA ls k = y := ⟨_, rfl⟩
      rw [hy] at c0 c1 c2 HD HCY
      clear hy
      have y1 : (0 : Int) ≤ (k : Int) := by omega
      have y2 : (k : Int) < (ls.length : Int) := by omega
      have HN := Lib.hid (show n + 1 ≤ 1000000000 by omega)
      have HN2 := Lib.hid (show n + 1 + 1 ≤ 1000000000 by omega)
      cases done with
      | true =>
        by_cases hf : y.b.f = x.b.f
        · have HF := Lib.hid hf
          clear hf
          have HZ2 := Lib.hid (show pA ls x false = (out) ++ pA (ls.drop (k + 1)) x true by rw [HZ.out, HD.out, pA]; simp [HF.out])
          rw [HF.out] at c0
          go_wp2_with fail
          go_quiet (fail)
          go_wp2_with fail
          go_quiet (fail)
          go_wp2
          go_roundw
          case rel => exact ⟨k + 1, n, true, out, by omega, by first | omega | (have := HND.out (by first | trivial | rfl); omega), fun h => (by cases h), by simp [HOL.out], by go_num, rfl, HZ2.out, (HG.out.later (below_drewN (Below.refl _ _) _)).cast rfl rfl (by simp [flatB])⟩
          case measure => simp [intOf]; omega
        · have hfb : (y.b.f != x.b.f) = true := by simpa using hf
          have HF := Lib.hid hf
          clear hf
          have HZ2 := Lib.hid (show pA ls x false = (out ++ [y]) ++ pA (ls.drop (k + 1)) x true by rw [HZ.out, HD.out, pA]; simp [HF.out])
          go_wp2_with fail
          go_quiet (fail)
          go_wp2_with fail
          go_quiet (fail)
          go_wp2_with (at_builtin; refine wp_append1G (news := bxC y) elemB (HG.out.later (below_drewN (Below.refl _ _) _)) HN.out (by decide) rfl (bxC_one y) rfl _ _ rfl rfl rfl rfl ?_)
          clear c0 c1 c2 m0 m1 m2
          intro v3 w5 hg3
          have HG3 := Lib.hid hg3
          clear hg3
          go_wp2
          go_roundw
          case rel => exact ⟨k + 1, n + 1, true, out ++ [y], by omega, by first | omega | (have := HND.out (by first | trivial | rfl); omega), fun h => (by cases h), by simp [HOL.out], by go_num, rfl, HZ2.out, HG3.out.cast rfl rfl (by simp [flatB, bxC])⟩
          case measure => simp [intOf]; omega
      | false =>
        by_cases hlt2 : y.b.f < x.b.f
        · have hd1 : decide (x.b.f ≤ y.b.f) = false := by simp; omega
          have hfb : (y.b.f != x.b.f) = true := by simp; omega
          have HF := Lib.hid hlt2
          clear hlt2
          have HZ2 := Lib.hid (show pA ls x false = (out ++ [y]) ++ pA (ls.drop (k + 1)) x false by rw [HZ.out, HD.out, pA]; simp [HF.out])
          go_wp2_with fail
          go_quiet (fail)
          go_wp2_with fail
          go_quiet (fail)
          go_wp2_with (at_builtin; refine wp_append1G (news := bxC y) elemB (HG.out.later (below_drewN (Below.refl _ _) _)) HN.out (by decide) rfl (bxC_one y) rfl _ _ rfl rfl rfl rfl ?_)
          clear c0 c1 c2 m0 m1 m2
          intro v3 w5 hg3
          have HG3 := Lib.hid hg3
          clear hg3
          go_wp2
          go_roundw
          case rel => exact ⟨k + 1, n + 1, false, out ++ [y], by omega, by first | omega | (have := HND.out (by first | trivial | rfl); omega), fun _ => (by have := HND.out (by first | trivial | rfl); omega), by simp [HOL.out], by go_num, rfl, HZ2.out, HG3.out.cast rfl rfl (by simp [flatB, bxC])⟩
          case measure => simp [intOf]; omega
        by_cases hf : y.b.f = x.b.f
        · have HF := Lib.hid hf
          clear hf hlt2
          rw [HF.out] at c0 HCY
          have hd1 : decide (x.b.f ≤ x.b.f) = true := by simp
          have HZ2 := Lib.hid (show pA ls x false = (out ++ [x]) ++ pA (ls.drop (k + 1)) x true by rw [HZ.out, HD.out, pA]; simp [HF.out])
          go_wp2_with fail
          go_quiet (fail)
          go_wp2_with (at_builtin; refine wp_append1G (news := bxC x) elemB (HG.out.later (below_drewN (Below.refl _ _) _)) HN.out (by decide) rfl (bxC_one x) rfl _ _ rfl rfl rfl rfl ?_)
          clear c0 c1 c2 m0 m1 m2
          intro v2 w4 hg2
          have HG2 := Lib.hid hg2
          clear hg2
          obtain ⟨c0, c1, c2⟩ := HCY.out w4 HG2.out.below
          have m0 : w4.cell? ⟨w.heap.size, 0, none⟩ = some (.int .i64 x.b.f) := HG2.out.blk.cell 0
          have m1 : w4.cell? ⟨w.heap.size, 1, none⟩ = some (.int .i64 x.b.x) := HG2.out.blk.cell 1
          go_wp2_with fail
          go_quiet (fail)
          go_wp2
          go_roundw
          case rel => exact ⟨k + 1, n + 1, true, out ++ [x], by omega, by first | omega | (have := HND.out (by first | trivial | rfl); omega), fun h => (by cases h), by simp [HOL.out], by go_num, rfl, HZ2.out, (HG2.out.later (below_drewN (Below.refl _ _) _)).cast rfl rfl (by simp [flatB, bxC])⟩
          case measure => simp [intOf]; omega
        · have hfb : (y.b.f != x.b.f) = true := by simpa using hf
          have hd1 : decide (x.b.f ≤ y.b.f) = true := by simp; omega
          have HF := Lib.hid hf
          have HL2 := Lib.hid hlt2
          clear hf hlt2
          have HZ2 := Lib.hid (show pA ls x false = (out ++ [x] ++ [y]) ++ pA (ls.drop (k + 1)) x true by rw [HZ.out, HD.out, pA]; simp [HF.out, HL2.out])
          go_wp2_with fail
          go_quiet (fail)
          go_wp2_with (at_builtin; refine wp_append1G (news := bxC x) elemB (HG.out.later (below_drewN (Below.refl _ _) _)) HN.out (by decide) rfl (bxC_one x) rfl _ _ rfl rfl rfl rfl ?_)
          clear c0 c1 c2 m0 m1 m2
          intro v2 w4 hg2
          have HG2 := Lib.hid hg2
          clear hg2
          obtain ⟨c0, c1, c2⟩ := HCY.out w4 HG2.out.below
          have m0 : w4.cell? ⟨w.heap.size, 0, none⟩ = some (.int .i64 x.b.f) := HG2.out.blk.cell 0
          have m1 : w4.cell? ⟨w.heap.size, 1, none⟩ = some (.int .i64 x.b.x) := HG2.out.blk.cell 1
          go_wp2_with fail
          go_quiet (fail)
          go_wp2_with (at_builtin; refine wp_append1G (news := bxC y) elemB (HG2.out.later (below_drewN (Below.refl _ _) _)) HN2.out (by decide) rfl (bxC_one y) rfl _ _ rfl rfl rfl rfl ?_)
          clear c0 c1 c2 m0 m1
          intro v3 w5 hg3
          have HG3 := Lib.hid hg3
          clear hg3
          go_wp2
          go_roundw
          case rel => exact ⟨k + 1, n + 1 + 1, true, out ++ [x] ++ [y], by omega, by first | omega | (have := HND.out (by first | trivial | rfl); omega), fun h => (by cases h), by simp [HOL.out], by go_num, rfl, HZ2.out, HG3.out.cast rfl rfl (by simp [flatB, bxC])⟩
          case measure => simp [intOf]; omega
    · obtain rfl : k = ls.length := by omega
      cases done with
      | true =>
        have HZ2 := Lib.hid (show pA ls x false = out by rw [HZ.out, List.drop_length]; simp [pA])
        go_wp2
        go_ret
        exact HLAST.out _ _ _ _ HOL.out HZ2.out HG.out.row
      | false =>
        have HZ2 := Lib.hid (show pA ls x false = out ++ [x] by rw [HZ.out, List.drop_length]; simp [pA])
        have HN := Lib.hid (show n + 1 ≤ 1000000000 by omega)
        go_wp2_with (at_builtin; refine wp_append1G (news := bxC x) elemB HG.out HN.out (by decide) rfl (bxC_one x) rfl _ _ rfl rfl rfl rfl ?_)
        intro v2 w4 hg2
        have HRW := Lib.hid (hg2.row.cast rfl (show _ = flatB (out ++ [x]) by simp [flatB_append, flatB_one, bxC]))
        clear hg2
        go_wp2
        go_ret
        exact HLAST.out _ _ _ _ (by simp [HOL.out]) HZ2.out HRW.out
end Go.Proofs.Ytehpdjlidmhkmaa
