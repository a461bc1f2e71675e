/- Chapter 37: lists of pairs compared; less. -/
import Derived.Test.YtmcodendnpjlaaaDoorWe37
import Derived.Test.YtmcodendnpjlaaaDoorPlain37
namespace Go.Proofs.YtmcodendnpjlaaaDoor
open Go.RowKit
attribute [local go_sem] Oper.semAt_some

def cmpL : List (Int × Int) → List (Int × Int) → Int
  | [], [] => 0
  | [], _ :: _ => -1
  | _ :: _, [] => 1
  | a :: as', b :: bs => if cmpP a b = 0 then cmpL as' bs else cmpP a b
theorem dropT {l : List (Int × Int)} {k : Nat} (h : k < l.length) : l.drop k = l.getD k (0, 0) :: l.drop (k + 1) := by
  rw [List.drop_eq_getElem_cons h]
  simp [h]

set_option maxRecDepth 100000 in
set_option maxHeartbeats 8000000 in
theorem CompareFunc_any (o1 o2 : Option Addr) (c1 c2 : Nat) (l1 l2 : List (Int × Int)) (w : World) (h1 : Twos w o1 l1) (h2 : Twos w o2 l2) (hl1 : l1.length ≤ 1000) :
    Calls Tryd.prog 38 #[.slice o1 l1.length c1, .slice o2 l2.length c2, .func (.func 39) #[] #[]] w (Ret (.int .i64 (cmpL l1 l2)) w) := by
  have H1 := Lib.hid h1
  have H2 := Lib.hid h2
  clear h1 h2
  obtain ⟨V, hV⟩ : ∃ V, cmpL l1 l2 = V := ⟨_, rfl⟩
  rw [hV]
  have HI := Lib.hid (show cmpL (l1.drop 0) (l2.drop 0) = V by rw [List.drop_zero, List.drop_zero]; exact hV)
  clear hV
  go_enter Tryd.func38, Tryd.ntmps38
  go_wp2
  go_loopw [13] (fun i wr => ∃ k : Nat, k ≤ l1.length ∧ k ≤ l2.length ∧ i = .int .i64 k ∧ cmpL (l1.drop k) (l2.drop k) = V ∧ Below w.heap.size w wr) (fun i _ => l1.length - (intOf i).toNat)
  case atStart => exact ⟨0, Nat.zero_le _, Nat.zero_le _, rfl, HI.out, Below.refl _ _⟩
  case round =>
    obtain ⟨k, hk1, hk2, rfl, hz, hb⟩ := hrel
    have HZ := Lib.hid hz
    have HB := Lib.hid hb
    clear hz hb HI
    by_cases hlt : k < l1.length
    · obtain ⟨g, off, hgo, e0, e1⟩ := (H1.out.later HB.out) k hlt
      subst hgo
      obtain ⟨p, hp⟩ : ∃ p, l1.getD k (0, 0) = p := ⟨_, rfl⟩
      rw [hp] at e0 e1
      have y1 : (0 : Int) ≤ (k : Int) := by omega
      have y2 : (k : Int) < (l1.length : Int) := by omega
      have HBX := Lib.hid (boxP wr 48 (.int .i64 p.1) (.int .i64 p.2))
      by_cases hlt2 : k < l2.length
      · obtain ⟨g2, off2, hgo2, d0, d1⟩ := (H2.out.later (below_step HB.out HBX.out.1)) k hlt2
        subst hgo2
        obtain ⟨q, hq⟩ : ∃ q, l2.getD k (0, 0) = q := ⟨_, rfl⟩
        rw [hq] at d0 d1
        have HE := Lib.hid (show (if cmpP p q = 0 then cmpL (l1.drop (k + 1)) (l2.drop (k + 1)) else cmpP p q) = V by rw [← HZ.out, dropT hlt, dropT hlt2, hp, hq]; rfl)
        clear hp hq
        have y3 : decide ((l2.length : Int) ≤ (k : Int)) = false := by rw [decide_eq_false_iff_not]; omega
        have y4 : (k : Int) < (l2.length : Int) := by omega
        have HBY := Lib.hid (boxP (wr.alloc (.cells #[.int .i64 p.1, .int .i64 p.2] 48)) 48 (.int .i64 q.1) (.int .i64 q.2))
        have HBB := Lib.hid (below_step (below_step HB.out HBX.out.1) HBY.out.1)
        clear HBX HBY
        go_wp2_with fail
        refine (cmp1_any p q _).mono ?_
        rintro e x ⟨rfl, hb⟩
        have HX := Lib.hid (below_step HBB.out hb)
        clear hb HBB e0 e1 d0 d1
        obtain ⟨C, hC⟩ : ∃ C, cmpP p q = C := ⟨_, rfl⟩
        rw [hC] at HE ⊢
        clear hC
        by_cases hC0 : C = 0
        · subst hC0
          have HN := Lib.hid (show cmpL (l1.drop (k + 1)) (l2.drop (k + 1)) = V from HE.out)
          go_wp2
          go_roundw
          case rel => exact ⟨k + 1, by omega, by omega, by go_num, HN.out, HX.out⟩
          case measure => simp [intOf]; omega
        · have hCb : (C != 0) = true := by simpa using hC0
          obtain rfl : C = V := by rw [← HE.out, if_neg hC0]
          clear hC0
          go_wp2
          go_ret
          exact ⟨rfl, HX.out⟩
      · obtain rfl : k = l2.length := by omega
        obtain rfl : (1 : Int) = V := by rw [← HZ.out, dropT hlt, List.drop_length]; rfl
        clear hlt2
        go_wp2
        go_ret
        exact ⟨rfl, below_step HB.out HBX.out.1⟩
    · obtain rfl : k = l1.length := by omega
      by_cases hlt2 : l1.length < l2.length
      · obtain rfl : (-1 : Int) = V := by rw [← HZ.out, dropT hlt2, List.drop_length]; rfl
        have y3 : (l1.length : Int) < (l2.length : Int) := by omega
        go_wp2
        go_ret
        exact ⟨rfl, HB.out⟩
      · have e : l2.length = l1.length := by omega
        obtain rfl : (0 : Int) = V := by rw [← HZ.out, List.drop_length, ← e, List.drop_length]; rfl
        have y3 : ¬ (l1.length : Int) < (l2.length : Int) := by omega
        go_wp2
        go_ret
        exact ⟨rfl, HB.out⟩

set_option maxRecDepth 100000 in
set_option maxHeartbeats 8000000 in
theorem compare_any (o1 o2 : Option Addr) (c1 c2 : Nat) (l1 l2 : List (Int × Int)) (w : World) (h1 : Twos w o1 l1) (h2 : Twos w o2 l2) (hl1 : l1.length ≤ 1000) :
    Calls Tryd.prog 36 #[.slice o1 l1.length c1, .slice o2 l2.length c2] w (Ret (.int .i64 (cmpL l1 l2)) w) := by
  have H1 := Lib.hid h1
  have H2 := Lib.hid h2
  clear h1 h2
  go_enter Tryd.func36, Tryd.ntmps36
  go_wp2_with fail
  refine (CompareFunc_any o1 o2 c1 c2 l1 l2 w H1.out H2.out hl1).mono ?_
  rintro e x ⟨rfl, hb⟩
  have HX := Lib.hid hb
  clear hb
  go_wp2
  go_ret
  exact ⟨rfl, HX.out⟩

/-- A list with its contradiction, as a value. -/
@[reducible] def fdV (o : Option Addr) (n cap : Nat) (c : Int) : Value := .agg #[.slice o n cap, .int .i64 c]
def lessI (l1 : List (Int × Int)) (x1 : Int) (l2 : List (Int × Int)) (x2 : Int) : Bool := if x1 = x2 then decide (cmpL l1 l2 < 0) else decide (x1 < x2)

set_option maxRecDepth 100000 in
set_option maxHeartbeats 8000000 in
theorem less_any (o1 o2 : Option Addr) (c1 c2 : Nat) (l1 l2 : List (Int × Int)) (x1 x2 : Int) (w : World) (h1 : Twos w o1 l1) (h2 : Twos w o2 l2) (hl1 : l1.length ≤ 1000) :
    Calls Tryd.prog 28 #[fdV o1 l1.length c1 x1, fdV o2 l2.length c2 x2] w (Ret (.bool (lessI l1 x1 l2 x2)) w) := by
  have H1 := Lib.hid h1
  have H2 := Lib.hid h2
  clear h1 h2
  obtain ⟨V, hV⟩ : ∃ V, lessI l1 x1 l2 x2 = V := ⟨_, rfl⟩
  rw [hV]
  have HV := Lib.hid hV
  clear hV
  go_enter Tryd.func28, Tryd.ntmps28
  have HB1 := Lib.hid (boxP w 54 (.slice o1 l1.length c1) (.int .i64 x1))
  have HB2 := Lib.hid (boxP (w.alloc (.cells #[.slice o1 l1.length c1, .int .i64 x1] 54)) 54 (.slice o2 l2.length c2) (.int .i64 x2))
  have HW := Lib.hid (below_step HB1.out.1 HB2.out.1)
  clear HB1 HB2
  by_cases hx : x1 = x2
  · subst hx
    have HD := Lib.hid (show decide (cmpL l1 l2 < 0) = V by rw [← HV.out]; simp [lessI])
    go_wp2_with fail
    refine (compare_any o1 o2 c1 c2 l1 l2 _ (H1.out.later HW.out) (H2.out.later HW.out) hl1).mono ?_
    rintro e x ⟨rfl, hb⟩
    have HX := Lib.hid (below_step HW.out hb)
    clear hb HW
    obtain ⟨C, hC⟩ : ∃ C, cmpL l1 l2 = C := ⟨_, rfl⟩
    rw [hC] at HD ⊢
    obtain rfl : decide (C < 0) = V := HD.out
    clear hC
    go_wp2
    go_ret
    exact ⟨rfl, HX.out⟩
  · have hxb : (x1 != x2) = true := by simpa using hx
    obtain rfl : decide (x1 < x2) = V := by rw [← HV.out]; simp [lessI, hx]
    clear hx
    go_wp2
    go_ret
    exact ⟨rfl, HW.out⟩

/-- Pairs of natural numbers as they lie in memory. -/
def toI (l : List Pr) : List (Int × Int) := l.map (fun p => ((p.1 : Int), (p.2 : Int)))
theorem toI_length (l : List Pr) : (toI l).length = l.length := by simp [toI]
theorem cmpI_nat (a b : Nat) : cmpI (a : Int) (b : Int) = if a < b then -1 else if b < a then 1 else 0 := by
  unfold cmpI
  by_cases h : a < b
  · simp [h]
  · by_cases h2 : b < a <;> simp [h, h2]
theorem cmpL_lessP : ∀ l1 l2 : List Pr, decide (cmpL (toI l1) (toI l2) < 0) = lessP l1 l2
  | [], [] => rfl
  | [], _ :: _ => rfl
  | _ :: _, [] => rfl
  | (a1, a2) :: as', (b1, b2) :: bs => by
    have ih := cmpL_lessP as' bs
    show decide ((if cmpP (a1, a2) (b1, b2) = 0 then cmpL (toI as') (toI bs) else cmpP (a1, a2) (b1, b2)) < 0) = lessP ((a1, a2) :: as') ((b1, b2) :: bs)
    unfold cmpP
    simp only [cmpI_nat, lessP]
    by_cases h1 : a1 = b1
    · subst h1
      by_cases h2 : a2 = b2
      · subst h2
        simpa using ih
      · by_cases h3 : a2 < b2
        · simp [h2, h3]
        · have h4 : b2 < a2 := by omega
          simp [h2, h3, h4]
    · by_cases h3 : a1 < b1
      · simp [h1, h3]
      · have h4 : b1 < a1 := by omega
        simp [h1, h3, h4]
theorem lessI_less (l1 l2 : List Pr) (x1 x2 : Int) : lessI (toI l1) x1 (toI l2) x2 = Fd.less ⟨l1, x1⟩ ⟨l2, x2⟩ := by
  unfold lessI Fd.less
  rw [cmpL_lessP]
end Go.Proofs.YtmcodendnpjlaaaDoor
