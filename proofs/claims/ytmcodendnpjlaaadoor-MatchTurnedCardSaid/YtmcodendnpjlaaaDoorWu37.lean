/- Chapter 37: MatchTurned walked. -/
import Derived.Test.YtmcodendnpjlaaaDoorWt37
namespace Go.Proofs.YtmcodendnpjlaaaDoor
open Go.RowKit
attribute [local go_sem] Oper.semAt_some

set_option maxRecDepth 100000 in
set_option maxHeartbeats 16000000 in
theorem MatchTurned_walk (w : World) (hT : Tab w) (oe : Option Addr) (ce : Nat) (E : List Ps) (he : Pss w oe E) (hle : E.length ≤ 6000000000000) (_hec : E.length ≤ ce) (hes : ∀ x ∈ E, x.s.size ≤ 9223372036854775807) (ox : Option Addr) (cx : Nat) (X : List Ps) (hx : Pss w ox X) (hlx : X.length ≤ 6000000000000) (_hxc : X.length ≤ cx) (hxs : ∀ x ∈ X, x.s.size ≤ 9223372036854775807) :
    Calls Tryd.prog 8 #[.slice oe E.length ce, .slice ox X.length cx] w (Ret (.bool true) w) := by
  have HE := Lib.hid he
  have HX := Lib.hid hx
  have HT := Lib.hid hT
  have HES := Lib.hid hes
  have HXS := Lib.hid hxs
  clear hes hxs
  clear he hx hT
  go_enter Tryd.func8, Tryd.ntmps8
  go_wp2_with fail
  refine (head_any w HT.out).mono ?_
  rintro _ W1 ⟨rfl, hb⟩
  have HB1 := Lib.hid hb
  clear hb
  go_wp2_with fail
  refine (Few_any oe ce E W1 (HE.out.later HB1.out) (by omega)).mono ?_
  rintro _ W2 ⟨rfl, hb⟩
  have HB2 := Lib.hid (below_step HB1.out hb)
  clear hb HB1
  cases hfe : fewP E with
  | false =>
    go_wp2
    go_ret
    exact ⟨rfl, HB2.out⟩
  | true =>
  go_wp2_with fail
  refine (Few_any ox cx X W2 (HX.out.later HB2.out) (by omega)).mono ?_
  rintro _ W3 ⟨rfl, hb⟩
  have HB3 := Lib.hid (below_step HB2.out hb)
  clear hb HB2
  cases hfx : fewP X with
  | false =>
    go_wp2
    go_ret
    exact ⟨rfl, HB3.out⟩
  | true =>
  have HLE := Lib.hid (show E.length ≤ 9000000000000000000 by omega)
  have HLX := Lib.hid (show X.length ≤ 9000000000000000000 by omega)
  go_wp2_with fail
  refine (RValidL_any oe ce E W3 (HE.out.later HB3.out) HLE.out HES.out).mono ?_
  rintro _ W4 ⟨rfl, hb⟩
  have HB4 := Lib.hid (below_step HB3.out hb)
  clear hb HB3
  cases hve : validP E with
  | false =>
    go_wp2
    go_ret
    exact ⟨rfl, HB4.out⟩
  | true =>
  go_wp2_with fail
  refine (RValidL_any ox cx X W4 (HX.out.later HB4.out) HLX.out HXS.out).mono ?_
  rintro _ W5 ⟨rfl, hb⟩
  have HB5 := Lib.hid (below_step HB4.out hb)
  clear hb HB4
  cases hvx : validP X with
  | false =>
    go_wp2
    go_ret
    exact ⟨rfl, HB5.out⟩
  | true =>
  have HVE := Lib.hid hve
  have HVX := Lib.hid hvx
  have HVV := Lib.hid (show (validP E && validP X) = true by rw [hve, hvx]; rfl)
  have HTT := Lib.hid (show (validP (turnL X) && validP (turnL E)) = true by rw [validP_turn hve, validP_turn hvx]; rfl)
  clear hve hvx
  go_wp2_with fail
  refine (Match_any oe ox ce cx E X W5 (HE.out.later HB5.out) (HX.out.later HB5.out) (HT.out.below HB5.out) HLE.out HLX.out).mono ?_
  rintro _ W6 ⟨hb, ⟨hv, oA, cA, rfl, hta⟩ | ⟨hv, _⟩⟩
  rotate_left
  · rw [HVV.out] at hv
    cases hv
  have HB6 := Lib.hid (below_step HB5.out hb)
  clear hb hta hv HB5
  go_wp2_with fail
  refine (turned_any ox cx X W6 (HX.out.later HB6.out) (validP_len HVX.out) (validP_bounds HVX.out)).mono ?_
  rintro _ W7 ⟨o1, c1, rfl, ht1, hb, _⟩
  have HB7 := Lib.hid (below_step HB6.out hb)
  have HT1 := Lib.hid ht1
  clear hb ht1 HB6
  go_wp2_with fail
  refine (turned_any oe ce E W7 (HE.out.later HB7.out) (validP_len HVE.out) (validP_bounds HVE.out)).mono ?_
  rintro _ W8 ⟨o2, c2, rfl, ht2, hb, _⟩
  have HB8 := Lib.hid (below_step HB7.out hb)
  have HT1b := Lib.hid (HT1.out.later hb)
  have HT2 := Lib.hid ht2
  clear hb ht2 HB7 HT1
  have HMC := Match_any o1 o2 c1 c2 (turnL X) (turnL E) W8 HT1b.out HT2.out (HT.out.below HB8.out) (by rw [turnL_len]; exact HLX.out) (by rw [turnL_len]; exact HLE.out)
  rw [turnL_len, turnL_len] at HMC
  have HMC' := Lib.hid HMC
  clear HMC
  go_wp2_with fail
  refine HMC'.out.mono ?_
  rintro _ W9 ⟨hb, ⟨hv, oB, cB, rfl, _⟩ | ⟨hv, _⟩⟩
  rotate_left
  · rw [HTT.out] at hv
    cases hv
  have HB9 := Lib.hid (below_step HB8.out hb)
  clear hb hv HB8 HMC' HT1b HT2
  have HCO := Lib.hid (turned_cost E X)
  obtain ⟨F, hF⟩ : ∃ F, best E X = F := ⟨_, rfl⟩
  obtain ⟨G, hG⟩ : ∃ G, best (turnL X) (turnL E) = G := ⟨_, rfl⟩
  rw [hF, hG] at HCO
  rw [hF, hG]
  clear hF hG
  have hco := HCO.out
  go_wp2
  go_ret
  exact ⟨rfl, HB9.out⟩

end Go.Proofs.YtmcodendnpjlaaaDoor