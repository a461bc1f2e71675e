/- Chapter 37: MatchLeast walked. -/
import Derived.Test.YtmcodendnpjlaaaDoorWq37
namespace Go.Proofs.YtmcodendnpjlaaaDoor
open Go.RowKit
attribute [local go_sem] Oper.semAt_some

set_option maxRecDepth 100000 in
set_option maxHeartbeats 16000000 in
theorem MatchLeast_walk (w : World) (hT : Tab w) (oe : Option Addr) (ce : Nat) (E : List Ps) (he : Pss w oe E) (hle : E.length ≤ 6000000000000) (_hec : E.length ≤ ce) (ox : Option Addr) (cx : Nat) (X : List Ps) (hx : Pss w ox X) (hlx : X.length ≤ 6000000000000) (_hxc : X.length ≤ cx) (op : Option Addr) (cp : Nat) (l : List (Int × Int)) (hp : Twos w op l) (hlp : l.length ≤ 9000000000000) :
    Calls Tryd.prog 4 #[.slice oe E.length ce, .slice ox X.length cx, .slice op l.length cp] w (Ret (.bool true) w) := by
  have HE := Lib.hid he
  have HX := Lib.hid hx
  have HT := Lib.hid hT
  have HP := Lib.hid hp
  clear hp
  clear he hx hT
  go_enter Tryd.func4, Tryd.ntmps4
  go_wp2_with fail
  refine (head_any w HT.out).mono ?_
  rintro _ W1 ⟨rfl, hb⟩
  have HB1 := Lib.hid hb
  clear hb
  go_wp2_with fail
  refine (Few_any oe ce E W1 (HE.out.later HB1.out) (by omega)).mono ?_
  rintro _ W2 ⟨rfl, hb⟩
  have HB2 := Lib.hid (below_step HB1.out hb)
  clear hb HB1
  cases hfe : fewP E with
  | false =>
    go_wp2
    go_ret
    exact ⟨rfl, HB2.out⟩
  | true =>
  go_wp2_with fail
  refine (Few_any ox cx X W2 (HX.out.later HB2.out) (by omega)).mono ?_
  rintro _ W3 ⟨rfl, hb⟩
  have HB3 := Lib.hid (below_step HB2.out hb)
  clear hb HB2
  cases hfx : fewP X with
  | false =>
    go_wp2
    go_ret
    exact ⟨rfl, HB3.out⟩
  | true =>
  have HLP := Lib.hid (show l.length ≤ 9000000000000000000 by omega)
  have HLE := Lib.hid (show E.length ≤ 9000000000000000000 by omega)
  have HLX := Lib.hid (show X.length ≤ 9000000000000000000 by omega)
  have HL20 := Lib.hid (show decide ((20 : Int) < (l.length : Int)) = true ∨ decide ((20 : Int) < (l.length : Int)) = false from by cases decide ((20 : Int) < (l.length : Int)) <;> simp)
  rcases HL20.out with h20 | h20
  · go_wp2
    go_ret
    exact ⟨rfl, HB3.out⟩
  clear HL20
  go_wp2_with fail
  refine (Match_any oe ox ce cx E X W3 (HE.out.later HB3.out) (HX.out.later HB3.out) (HT.out.below HB3.out) (by omega) (by omega)).mono ?_
  rintro _ W4 ⟨hb, ⟨hv, oA, cA, rfl, hta⟩ | ⟨hv, rfl⟩⟩
  rotate_left
  · have HB4 := Lib.hid (below_step HB3.out hb)
    clear hb
    go_wp2
    go_ret
    exact ⟨rfl, HB4.out⟩
  have HB4 := Lib.hid (below_step HB3.out hb)
  have HA4 := Lib.hid hta
  have HV := Lib.hid hv
  clear hb hta hv HB3
  have HSELF := Lib.hid (least_self HV.out)
  have HOTH := Lib.hid (fun x h => least_other HV.out (l := l) (x := x) h)
  have HFL := Lib.hid (best_small HV.out)
  obtain ⟨F, hF⟩ : ∃ F, best E X = F := ⟨_, rfl⟩
  rw [hF] at HSELF HOTH HA4 HFL ⊢
  clear hF HV
  have HFL2 := Lib.hid (show (toI F.pairs).length ≤ 9000000000000000000 by rw [toI_length]; have := HFL.out.len; omega)
  have HC1 := CostM_any oe ox oA ce cx cA E X (toI F.pairs) W4 (HE.out.later HB4.out) (HX.out.later HB4.out) HA4.out (HT.out.below HB4.out) HLE.out HLX.out HFL2.out
  rw [toI_length, HSELF.out] at HC1
  have HC1' := Lib.hid HC1
  clear HC1
  go_wp2_with fail
  refine HC1'.out.mono ?_
  rintro _ W5 ⟨rfl, hb⟩
  have HB5 := Lib.hid (below_step HB4.out hb)
  have HA5 := Lib.hid (HA4.out.later hb)
  clear hb HB4 HA4 HC1'
  have HC2 := Lib.hid (CostM_any oe ox op ce cx cp E X l W5 (HE.out.later HB5.out) (HX.out.later HB5.out) (HP.out.later HB5.out) (HT.out.below HB5.out) HLE.out HLX.out HLP.out)
  go_wp2_with fail
  refine HC2.out.mono ?_
  rintro _ W6 ⟨rfl, hb⟩
  have HB6 := Lib.hid (below_step HB5.out hb)
  have HA6 := Lib.hid (HA5.out.later hb)
  clear hb HB5 HA5 HC2
  obtain ⟨ov, hov⟩ : ∃ o, costO E X l = o := ⟨_, rfl⟩
  rw [hov]
  have HOV := Lib.hid hov
  clear hov
  cases ov with
  | none =>
    go_wp2
    go_ret
    exact ⟨rfl, HB6.out⟩
  | some x =>
    have HOX := Lib.hid (HOTH.out x HOV.out)
    rcases HOX.out with hlt | ⟨heq, hls⟩
    · have hd : decide (F.cost < x) = true := decide_eq_true hlt
      clear hlt
      go_wp2
      go_ret
      exact ⟨rfl, HB6.out⟩
    · subst heq
      have hd : decide (F.cost < F.cost) = false := decide_eq_false (Int.lt_irrefl _)
      have HRL := RLess_any op oA cp cA l (toI F.pairs) W6 (HP.out.later HB6.out) HA6.out HLP.out
      rw [toI_length, hls] at HRL
      have HRL' := Lib.hid HRL
      clear HRL hls
      go_wp2_with fail
      refine HRL'.out.mono ?_
      rintro _ W7 ⟨rfl, hb⟩
      have HB7 := Lib.hid (below_step HB6.out hb)
      clear hb HB6 HRL' HA6
      go_wp2
      go_ret
      exact ⟨rfl, HB7.out⟩

end Go.Proofs.YtmcodendnpjlaaaDoor