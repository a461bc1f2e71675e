/- Chapter 37: MatchOneMore walked. -/
import Derived.Test.YtmcodendnpjlaaaDoorWn37
namespace Go.Proofs.YtmcodendnpjlaaaDoor
open Go.RowKit
attribute [local go_sem] Oper.semAt_some

structure Pred (l : List Ps) (k : Nat) : Prop where
  d : decide ((0 : Int) < (l.length : Int)) = true
  pos : 0 < l.length
  tk : (l.take k).length = k
  eq : l.length - 1 = k
  le : k ≤ 9000000000000000000
theorem pred_of {l : List Ps} {k : Nat} (h : l.length = k + 1) (hl : l.length ≤ 6000000000000) : Pred l k := ⟨decide_eq_true (by omega), by omega, by rw [List.length_take]; omega, by omega, by omega⟩
theorem diff5 {f g : Int} (h : f ≤ g + 5 ∧ g ≤ f + 5) : decide ((5 : Int) < f - g) = false ∧ decide ((5 : Int) < g - f) = false := by
  rw [decide_eq_false_iff_not, decide_eq_false_iff_not]; omega

set_option maxRecDepth 100000 in
set_option maxHeartbeats 16000000 in
theorem MatchOneMore_walk (w : World) (hT : Tab w) (oe : Option Addr) (ce : Nat) (E : List Ps) (he : Pss w oe E) (hle : E.length ≤ 6000000000000) (hec : E.length ≤ ce) (ox : Option Addr) (cx : Nat) (X : List Ps) (hx : Pss w ox X) (hlx : X.length ≤ 6000000000000) (hxc : X.length ≤ cx) :
    Calls Tryd.prog 7 #[.slice oe E.length ce, .slice ox X.length cx] w (Ret (.bool true) w) := by
  have HE := Lib.hid he
  have HX := Lib.hid hx
  have HT := Lib.hid hT
  clear he hx hT
  go_enter Tryd.func7, Tryd.ntmps7
  go_wp2_with fail
  refine (head_any w HT.out).mono ?_
  rintro _ W1 ⟨rfl, hb⟩
  have HB1 := Lib.hid hb
  clear hb
  go_wp2_with fail
  refine (Few_any oe ce E W1 (HE.out.later HB1.out) (by omega)).mono ?_
  rintro _ W2 ⟨rfl, hb⟩
  have HB2 := Lib.hid (below_step HB1.out hb)
  clear hb HB1
  cases hfe : fewP E with
  | false =>
    go_wp2
    go_ret
    exact ⟨rfl, HB2.out⟩
  | true =>
  go_wp2_with fail
  refine (Few_any ox cx X W2 (HX.out.later HB2.out) (by omega)).mono ?_
  rintro _ W3 ⟨rfl, hb⟩
  have HB3 := Lib.hid (below_step HB2.out hb)
  clear hb HB2
  cases hfx : fewP X with
  | false =>
    go_wp2
    go_ret
    exact ⟨rfl, HB3.out⟩
  | true =>
  go_wp2_with fail
  refine (Match_any oe ox ce cx E X W3 (HE.out.later HB3.out) (HX.out.later HB3.out) (HT.out.below HB3.out) (by omega) (by omega)).mono ?_
  rintro _ W4 ⟨hb, ⟨hv, oA, cA, rfl, hta⟩ | ⟨hv, rfl⟩⟩
  rotate_left
  · have HB4 := Lib.hid (below_step HB3.out hb)
    clear hb
    go_wp2
    go_ret
    exact ⟨rfl, HB4.out⟩
  have HB4 := Lib.hid (below_step HB3.out hb)
  have HA4 := Lib.hid hta
  have HV := Lib.hid hv
  clear hb hta hv HB3
  have HLE := Lib.hid (show E.length ≤ 9000000000000000000 by omega)
  have HLX := Lib.hid (show X.length ≤ 9000000000000000000 by omega)
  have HE8 := validP_len (both_valid HV.out).1
  have HX8 := validP_len (both_valid HV.out).2
  have HMF := Lib.hid (best_small HV.out)
  have HME := Lib.hid (fun k hk => more_entry E X (k := k) hk)
  have HMX := Lib.hid (fun k hk => more_exit E X (k := k) hk)
  obtain ⟨F, hF⟩ : ∃ F, best E X = F := ⟨_, rfl⟩
  rw [hF] at HME HMX HA4 HMF ⊢
  clear hF HA4
  have hf1 := HMF.out.lo
  have hf2 := HMF.out.hi
  go_upto_region 8 with (fail)
  have HE0 := Lib.hid (show ∀ n : Nat, E.length = n → n = 0 ∨ ∃ k, n = k + 1 from fun n _ => by cases n with | zero => exact .inl rfl | succ k => exact .inr ⟨k, rfl⟩)
  rcases HE0.out _ rfl with he0 | ⟨k1, hek⟩
  · obtain rfl : E = [] := List.eq_nil_of_length_eq_zero he0
    clear he0 HE0 HME
    have HX0 := Lib.hid (show ∀ n : Nat, X.length = n → n = 0 ∨ ∃ k, n = k + 1 from fun n _ => by cases n with | zero => exact .inl rfl | succ k => exact .inr ⟨k, rfl⟩)
    rcases HX0.out _ rfl with hx0 | ⟨k, hxk⟩
    · obtain rfl : X = [] := List.eq_nil_of_length_eq_zero hx0
      clear hx0 HX0
      go_wp2
      go_ret
      exact ⟨rfl, HB4.out⟩
    have HPX := Lib.hid (pred_of hxk hlx)
    have hd2 := HPX.out.d
    have hdn := HPX.out.pos
    have HXK := Lib.hid hxk
    clear hxk HX0
    go_wp2_with fail
    have HM := HMX.out k HXK.out
    have htl := HPX.out.tk
    rw [HPX.out.eq]
    have HC := Match_any oe ox ce cx [] (X.take k) W4 (HE.out.later HB4.out) ((HX.out.take k).later HB4.out) (HT.out.below HB4.out) (by decide) (by rw [htl]; exact HPX.out.le)
    rw [htl] at HC
    refine HC.mono ?_
    rintro _ W9 ⟨hb, ⟨hv, oC, cC, rfl, _⟩ | ⟨hv, _⟩⟩
    rotate_left
    · rw [(both_valid HV.out).1, validP_take (both_valid HV.out).2] at hv
      cases hv
    have HB9 := Lib.hid (below_step HB4.out hb)
    have HG := Lib.hid (best_small hv)
    obtain ⟨G2, hG2⟩ : ∃ G, best [] (X.take k) = G := ⟨_, rfl⟩
    rw [hG2] at HM HG ⊢
    clear hG2 hb hv HC
    have hg1 := HG.out.lo
    have hg2 := HG.out.hi
    have x1 := (diff5 HM).1
    have x2 := (diff5 HM).2
    clear HM
    go_wp2
    go_ret
    exact ⟨rfl, HB9.out⟩
  have HPE := Lib.hid (pred_of hek hle)
  have hd1 := HPE.out.d
  have hdn1 := HPE.out.pos
  have HEK := Lib.hid hek
  clear hek HE0
  go_wp2_with fail
  have HM1 := HME.out k1 HEK.out
  have htl1 := HPE.out.tk
  rw [HPE.out.eq]
  have HC1 := Match_any oe ox ce cx (E.take k1) X W4 ((HE.out.take k1).later HB4.out) (HX.out.later HB4.out) (HT.out.below HB4.out) (by rw [htl1]; exact HPE.out.le) HLX.out
  rw [htl1] at HC1
  refine HC1.mono ?_
  rintro _ W5 ⟨hb, ⟨hv, oB, cB, rfl, _⟩ | ⟨hv, _⟩⟩
  rotate_left
  · rw [(both_valid HV.out).2, validP_take (both_valid HV.out).1] at hv
    cases hv
  have HB5 := Lib.hid (below_step HB4.out hb)
  have HG1 := Lib.hid (best_small hv)
  obtain ⟨G1, hG1⟩ : ∃ G, best (E.take k1) X = G := ⟨_, rfl⟩
  rw [hG1] at HM1 HG1 ⊢
  clear hG1 hb hv HC1 HB4
  have hg3 := HG1.out.lo
  have hg4 := HG1.out.hi
  have x3 := (diff5 HM1).1
  have x4 := (diff5 HM1).2
  clear HM1
  have HX0 := Lib.hid (show ∀ n : Nat, X.length = n → n = 0 ∨ ∃ k, n = k + 1 from fun n _ => by cases n with | zero => exact .inl rfl | succ k => exact .inr ⟨k, rfl⟩)
  rcases HX0.out _ rfl with hx0 | ⟨k, hxk⟩
  · obtain rfl : X = [] := List.eq_nil_of_length_eq_zero hx0
    clear hx0 HX0
    go_wp2
    go_ret
    exact ⟨rfl, HB5.out⟩
  have HPX := Lib.hid (pred_of hxk hlx)
  have hd2 := HPX.out.d
  have hdn := HPX.out.pos
  have HXK := Lib.hid hxk
  clear hxk HX0
  go_wp2_with fail
  have HM := HMX.out k HXK.out
  have htl := HPX.out.tk
  rw [HPX.out.eq]
  have HC := Match_any oe ox ce cx E (X.take k) W5 (HE.out.later HB5.out) ((HX.out.take k).later HB5.out) (HT.out.below HB5.out) HLE.out (by rw [htl]; exact HPX.out.le)
  rw [htl] at HC
  refine HC.mono ?_
  rintro _ W9 ⟨hb, ⟨hv, oC, cC, rfl, _⟩ | ⟨hv, _⟩⟩
  rotate_left
  · rw [(both_valid HV.out).1, validP_take (both_valid HV.out).2] at hv
    cases hv
  have HB9 := Lib.hid (below_step HB5.out hb)
  have HG := Lib.hid (best_small hv)
  obtain ⟨G2, hG2⟩ : ∃ G, best E (X.take k) = G := ⟨_, rfl⟩
  rw [hG2] at HM HG ⊢
  clear hG2 hb hv HC
  have hg1 := HG.out.lo
  have hg2 := HG.out.hi
  have x1 := (diff5 HM).1
  have x2 := (diff5 HM).2
  clear HM
  go_wp2
  go_ret
  exact ⟨rfl, HB9.out⟩

end Go.Proofs.YtmcodendnpjlaaaDoor