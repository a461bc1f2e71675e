/- Chapter 37: the reference's Few and Same. -/
import Derived.Test.YtmcodendnpjlaaaDoorWj37
import Derived.Test.YtmcodendnpjlaaaDoorPlainI37
import Derived.BigQuiet
namespace Go.Proofs.YtmcodendnpjlaaaDoor
open Go.RowKit
attribute [local go_sem] Oper.semAt_some

def fewFrom : List Ps → Bool
  | [] => true
  | p :: l => !decide ((30 : Int) < (p.s.size : Int)) && fewFrom l
def fewP (l : List Ps) : Bool := fewFrom l && decide ((l.length : Int) ≤ 20)
set_option maxRecDepth 100000 in
set_option maxHeartbeats 8000000 in
theorem Few_any (o : Option Addr) (cap : Nat) (l : List Ps) (w : World) (hr : Pss w o l) (hl : l.length ≤ 9000000000000000000) : Calls Tryd.prog 12 #[.slice o l.length cap] w (Ret (.bool (fewP l)) w) := by
  have HP := Lib.hid hr
  clear hr
  obtain ⟨V, hV⟩ : ∃ V, fewP l = V := ⟨_, rfl⟩
  rw [hV]
  have HI := Lib.hid (show (fewFrom (l.drop 0) && decide ((l.length : Int) ≤ 20)) = V from hV)
  clear hV
  go_enter Tryd.func12, Tryd.ntmps12
  go_wp2
  go_loopw [3] (fun i wr => ∃ (k : Nat), k ≤ l.length ∧ i = .int .i64 k ∧ (fewFrom (l.drop k) && decide ((l.length : Int) ≤ 20)) = V ∧ Below w.heap.size w wr) (fun i _ => l.length - (intOf i).toNat)
  case atStart => exact ⟨0, Nat.zero_le _, rfl, HI.out, Below.refl _ _⟩
  case round =>
    obtain ⟨k, hk, rfl, hz, hb⟩ := hrel
    have HZ := Lib.hid hz
    have HB := Lib.hid hb
    clear hz hb HI
    by_cases hlt : k < l.length
    · obtain ⟨g, off, hgo, c0, c1⟩ := (HP.out.later HB.out) k hlt
      subst hgo
      have HE := Lib.hid (show ((!decide ((30 : Int) < ((l.getD k Ps.zero).s.size : Int)) && fewFrom (l.drop (k + 1))) && decide ((l.length : Int) ≤ 20)) = V by rw [← HZ.out, dropP hlt]; rfl)
      obtain ⟨p, hp⟩ : ∃ p, l.getD k Ps.zero = p := ⟨_, rfl⟩
      rw [hp] at c0 c1 HE
      clear hp
      have y1 : (0 : Int) ≤ (k : Int) := by omega
      have y2 : (k : Int) < (l.length : Int) := by omega
      by_cases h30 : (30 : Int) < (p.s.size : Int)
      · have hd : decide ((30 : Int) < (p.s.size : Int)) = true := decide_eq_true h30
        obtain rfl : false = V := by rw [← HE.out, hd]; simp
        go_wp2
        go_ret
        exact ⟨rfl, HB.out⟩
      · have hd : decide ((30 : Int) < (p.s.size : Int)) = false := decide_eq_false h30
        have HN := Lib.hid (show (fewFrom (l.drop (k + 1)) && decide ((l.length : Int) ≤ 20)) = V by rw [← HE.out, hd]; simp)
        go_wp2
        go_roundw
        case rel => exact ⟨k + 1, by omega, by go_num, HN.out, HB.out⟩
        case measure => simp [intOf]; omega
    · obtain rfl : k = l.length := by omega
      have HE := Lib.hid (show decide ((l.length : Int) ≤ 20) = V by rw [← HZ.out, List.drop_length]; rfl)
      obtain rfl : decide ((l.length : Int) ≤ 20) = V := HE.out
      go_wp2
      go_ret
      exact ⟨rfl, HB.out⟩

def getT (l : List (Int × Int)) (k : Nat) : Int × Int := l.getD k (0, 0)
theorem eq_of_getT {la lb : List (Int × Int)} (hl : la.length = lb.length) (h : ∀ j, j < la.length → getT la j = getT lb j) : la = lb := by
  apply List.ext_getElem hl
  intro j h1 h2
  have := h j h1
  simpa [getT, h1, h2] using this
theorem run_neq_auxP (a b c d : Int) (h : ¬ a = c ∨ (a = c ∧ ¬ b = d)) (w : World) :
    (binOp .neq 48 (.agg #[.int .i64 a, .int .i64 b]) (.agg #[.int .i64 c, .int .i64 d])).run Tryd.prog w = .ok (.bool true) w := by
  rcases h with h | ⟨rfl, h⟩
  all_goals (go_simp; try simp [h])
theorem run_neq_pr (x y : Int × Int) (h : x ≠ y) (w : World) : (binOp .neq 48 (prV x) (prV y)).run Tryd.prog w = .ok (.bool true) w :=
  run_neq_auxP _ _ _ _ (by
    obtain ⟨a, b⟩ := x
    obtain ⟨c, d⟩ := y
    by_cases h1 : a = c <;> by_cases h2 : b = d <;> simp_all) w
set_option maxRecDepth 100000 in
set_option maxHeartbeats 4000000 in
theorem Same_any (oa ob : Option Addr) (ca cb : Nat) (la lb : List (Int × Int)) (w : World) (ha : Twos w oa la) (hb : Twos w ob lb) (hla : la.length ≤ 9223372036854775807) : Calls Tryd.prog 17 #[.slice oa la.length ca, .slice ob lb.length cb] w (Ret (.bool (decide (la = lb))) w) := by
  have HA := Lib.hid ha
  have HB := Lib.hid hb
  clear ha hb
  obtain ⟨V, hV⟩ : ∃ V, decide (la = lb) = V := ⟨_, rfl⟩
  rw [hV]
  have HV := Lib.hid hV
  clear hV
  by_cases hll : la.length = lb.length
  · go_enter Tryd.func17, Tryd.ntmps17
    rw [← hll]
    have HLL := Lib.hid hll
    clear hll
    go_wp2
    go_loopw [5] (fun i wr => ∃ k : Nat, k ≤ la.length ∧ i = .int .i64 k ∧ (∀ j, j < k → getT la j = getT lb j) ∧ Below w.heap.size w wr) (fun i _ => la.length - (intOf i).toNat)
    case atStart => exact ⟨0, Nat.zero_le _, rfl, fun j hj => absurd hj (by omega), Below.refl _ _⟩
    case round =>
      obtain ⟨k, hk, rfl, hri, hbel⟩ := hrel
      have HRI := Lib.hid hri
      have HBL := Lib.hid hbel
      clear hri hbel
      by_cases hlt : k < la.length
      · obtain ⟨b1, o1, h1, c0, c1⟩ := (HA.out.later HBL.out) k hlt
        obtain ⟨b2, o2, h2, d0, d1⟩ := (HB.out.later HBL.out) k (by rw [← HLL.out]; exact hlt)
        subst h1 h2
        obtain ⟨x, hxe⟩ : ∃ x, getT la k = x := ⟨_, rfl⟩
        obtain ⟨y, hye⟩ : ∃ y, getT lb k = y := ⟨_, rfl⟩
        rw [show la.getD k (0, 0) = x from hxe] at c0 c1
        rw [show lb.getD k (0, 0) = y from hye] at d0 d1
        have HXE := Lib.hid hxe
        have HYE := Lib.hid hye
        clear hxe hye
        have y1 : (0 : Int) ≤ (k : Int) := by omega
        have y2 : (k : Int) < (la.length : Int) := by omega
        by_cases hxy : x = y
        · subst hxy
          go_wp2_with fail
          go_quiet (fail)
          go_wp2
          go_roundw
          case rel => exact ⟨k + 1, by omega, by go_num, fun j hj => by rcases Nat.lt_or_eq_of_le (Nat.le_of_lt_succ hj) with h | rfl; exact HRI.out j h; rw [HXE.out, HYE.out], below_drewN HBL.out _⟩
          case measure => simp [intOf]; omega
        · obtain rfl : false = V := by
            rw [← HV.out]
            symm
            rw [decide_eq_false_iff_not]
            intro e
            subst e
            exact hxy (HXE.out.symm.trans HYE.out)
          have hne := run_neq_pr x y hxy
          clear hxy
          go_wp2_with fail
          go_quiet (fail)
          go_wp2
          go_ret
          exact ⟨rfl, below_drewN HBL.out _⟩
      · obtain rfl : k = la.length := by omega
        obtain rfl : true = V := by rw [← HV.out]; symm; rw [decide_eq_true_eq]; exact eq_of_getT HLL.out HRI.out
        go_wp2
        go_ret
        exact ⟨rfl, HBL.out⟩
  · obtain rfl : false = V := by
      rw [← HV.out]
      symm
      rw [decide_eq_false_iff_not]
      intro e
      exact hll (by rw [e])
    have hli : ¬ (la.length : Int) = (lb.length : Int) := by omega
    go_enter Tryd.func17, Tryd.ntmps17
    go_wp2
    go_ret
    exact ⟨rfl, Below.refl _ _⟩

end Go.Proofs.YtmcodendnpjlaaaDoor
