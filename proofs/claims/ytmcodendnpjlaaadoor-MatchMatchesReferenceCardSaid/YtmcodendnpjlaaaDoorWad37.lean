/- Chapter 37: MatchMatchesReference walked. -/
import Derived.Test.YtmcodendnpjlaaaDoorWac37
namespace Go.Proofs.YtmcodendnpjlaaaDoor
open Go.RowKit
attribute [local go_sem] Oper.semAt_some

/-- What both Match answer. -/
def mRes (E X : List Ps) : List (Int × Int) × Int × Int := if (validP E && validP X) = true then (toI (best E X).pairs, (best E X).cost, 0) else ([], 0, 1)
theorem MOut.res {E X : List Ps} {w w' : World} {e : Ending} (h : MOut E X w e w') : Below w.heap.size w w' ∧ ∃ (o : Option Addr) (c : Nat), e = .returned (.tuple #[.slice o (mRes E X).1.length c, .int .i64 (mRes E X).2.1, .int .i64 (mRes E X).2.2]) ∧ Twos w' o (mRes E X).1 := by
  obtain ⟨hb, ⟨hv, o, c, he, ht⟩ | ⟨hv, he⟩⟩ := h
  · have e1 : mRes E X = (toI (best E X).pairs, (best E X).cost, 0) := by unfold mRes; rw [if_pos hv]
    refine ⟨hb, o, c, ?_, ?_⟩
    · rw [e1, he]; simp only [toI_length]
    · rw [e1]; exact ht
  · have e1 : mRes E X = ([], 0, 1) := by unfold mRes; rw [hv]; rfl
    refine ⟨hb, none, 0, ?_, ?_⟩
    · rw [e1, he]; rfl
    · rw [e1]; exact Twos.nil
theorem mRes_len {E X : List Ps} : (mRes E X).1.length ≤ 9000000000000000000 := by
  unfold mRes
  split
  · rename_i h
    have := (best_small h).len
    simp only [toI_length]
    omega
  · simp

set_option maxRecDepth 100000 in
set_option maxHeartbeats 16000000 in
theorem MatchMatchesReference_walk (w : World) (hT : Tab w) (oe : Option Addr) (ce : Nat) (E : List Ps) (he : Pss w oe E) (hle : E.length ≤ 6000000000000) (_hec : E.length ≤ ce) (hes : ∀ x ∈ E, x.s.size ≤ 9223372036854775807) (ox : Option Addr) (cx : Nat) (X : List Ps) (hx : Pss w ox X) (hlx : X.length ≤ 6000000000000) (_hxc : X.length ≤ cx) (hxs : ∀ x ∈ X, x.s.size ≤ 9223372036854775807) (op : Option Addr) (cp : Nat) (l : List (Int × Int)) (hp : Twos w op l) (hlp : l.length ≤ 9000000000000) :
    Calls Tryd.prog 3 #[.slice oe E.length ce, .slice ox X.length cx, .slice op l.length cp] w (Ret (.bool true) w) := by
  have HE := Lib.hid he
  have HX := Lib.hid hx
  have HT := Lib.hid hT
  have HP := Lib.hid hp
  clear hp
  clear he hx hT
  go_enter Tryd.func3, Tryd.ntmps3
  go_wp2_with fail
  refine (head_any w HT.out).mono ?_
  rintro _ W1 ⟨rfl, hb⟩
  have HB1 := Lib.hid hb
  clear hb
  go_wp2_with fail
  refine (Few_any oe ce E W1 (HE.out.later HB1.out) (by omega)).mono ?_
  rintro _ W2 ⟨rfl, hb⟩
  have HB2 := Lib.hid (below_step HB1.out hb)
  clear hb HB1
  cases hfe : fewP E with
  | false =>
    go_wp2
    go_ret
    exact ⟨rfl, HB2.out⟩
  | true =>
  go_wp2_with fail
  refine (Few_any ox cx X W2 (HX.out.later HB2.out) (by omega)).mono ?_
  rintro _ W3 ⟨rfl, hb⟩
  have HB3 := Lib.hid (below_step HB2.out hb)
  clear hb HB2
  cases hfx : fewP X with
  | false =>
    go_wp2
    go_ret
    exact ⟨rfl, HB3.out⟩
  | true =>
  have HSE := Lib.hid hes
  have HSX := Lib.hid hxs
  clear hes hxs
  have HLE := Lib.hid (show E.length ≤ 9000000000000000000 by omega)
  have HLX := Lib.hid (show X.length ≤ 9000000000000000000 by omega)
  have HLP := Lib.hid (show l.length ≤ 9000000000000000000 by omega)
  by_cases h20 : 20 < l.length
  · have hd20 : decide ((20 : Int) < (l.length : Int)) = true := decide_eq_true (by omega)
    go_wp2
    go_ret
    exact ⟨rfl, HB3.out⟩
  have hd20 : decide ((20 : Int) < (l.length : Int)) = false := decide_eq_false (by omega)
  have HL100 := Lib.hid (show l.length ≤ 100 by omega)
  have HML := Lib.hid (mRes_len (E := E) (X := X))
  go_wp2_with fail
  refine (Match_any oe ox ce cx E X W3 (HE.out.later HB3.out) (HX.out.later HB3.out) (HT.out.below HB3.out) HLE.out HLX.out).mono ?_
  intro _ W4 hm
  obtain ⟨hb, oA, cA, rfl, hta⟩ := hm.res
  have HB4 := Lib.hid (below_step HB3.out hb)
  have HA4 := Lib.hid hta
  clear hm hb hta HB3
  go_wp2_with fail
  refine (RMatch_any oe ox ce cx E X W4 (HE.out.later HB4.out) (HX.out.later HB4.out) HLE.out HLX.out HSE.out HSX.out).mono ?_
  intro _ W5 hm
  obtain ⟨hb, oB, cB, rfl, htb⟩ := hm.res
  have HB5 := Lib.hid (below_step HB4.out hb)
  have HA5 := Lib.hid (HA4.out.later hb)
  have HT5 := Lib.hid htb
  clear hm hb htb HB4 HA4
  obtain ⟨⟨L, C, E1⟩, hL⟩ : ∃ r, mRes E X = r := ⟨_, rfl⟩
  rw [hL] at HA5 HT5 HML ⊢
  clear hL
  simp only at HA5 HT5 HML ⊢
  have HC1 := Lib.hid (CostM_any oe ox op ce cx cp E X l W5 (HE.out.later HB5.out) (HX.out.later HB5.out) (HP.out.later HB5.out) (HT.out.below HB5.out) HLE.out HLX.out HLP.out)
  go_wp2_with fail
  refine HC1.out.mono ?_
  rintro _ W6 ⟨rfl, hb⟩
  have HB6 := Lib.hid (below_step HB5.out hb)
  have HA6 := Lib.hid (HA5.out.later hb)
  have HT6 := Lib.hid (HT5.out.later hb)
  clear hb HB5 HA5 HT5 HC1
  have HC2 := Lib.hid (RCost_any oe ox op ce cx cp E X l W6 (HE.out.later HB6.out) (HX.out.later HB6.out) (HP.out.later HB6.out) HLE.out HLX.out HL100.out HSE.out HSX.out)
  rw [← costR_eq] at HC2
  obtain ⟨ov, hov⟩ : ∃ o, costO E X l = o := ⟨_, rfl⟩
  rw [hov] at HC2 ⊢
  clear hov
  have HSM := fun W7 (h1 : Twos W7 oA L) (h2 : Twos W7 oB L) => Same_any oA oB cA cB L L W7 h1 h2 (by have := HML.out; omega)
  rw [decide_eq_true (rfl : L = L)] at HSM
  have HSM' := Lib.hid HSM
  clear HSM
  have hCC : (C == C) = true := by simp
  have hEE : (E1 == E1) = true := by simp
  cases ov with
  | none =>
    go_wp2_with fail
    refine HC2.out.mono ?_
    rintro _ W7 ⟨rfl, hb⟩
    have HB7 := Lib.hid (below_step HB6.out hb)
    have HA7 := Lib.hid (HA6.out.later hb)
    have HT7 := Lib.hid (HT6.out.later hb)
    clear hb HB6 HA6 HT6 HC2
    go_wp2_with fail
    refine (HSM'.out W7 HA7.out HT7.out).mono ?_
    rintro _ W8 ⟨rfl, hb⟩
    have HB8 := Lib.hid (below_step HB7.out hb)
    clear hb HB7 HA7 HT7
    go_wp2
    go_ret
    exact ⟨rfl, HB8.out⟩
  | some x =>
    have hxx : (x == x) = true := by simp
    go_wp2_with fail
    refine HC2.out.mono ?_
    rintro _ W7 ⟨rfl, hb⟩
    have HB7 := Lib.hid (below_step HB6.out hb)
    have HA7 := Lib.hid (HA6.out.later hb)
    have HT7 := Lib.hid (HT6.out.later hb)
    clear hb HB6 HA6 HT6 HC2
    go_wp2_with fail
    refine (HSM'.out W7 HA7.out HT7.out).mono ?_
    rintro _ W8 ⟨rfl, hb⟩
    have HB8 := Lib.hid (below_step HB7.out hb)
    clear hb HB7 HA7 HT7
    go_wp2
    go_ret
    exact ⟨rfl, HB8.out⟩

end Go.Proofs.YtmcodendnpjlaaaDoor