/- Chapter 37: MatchRight walked. -/
import Derived.Test.YtmcodendnpjlaaaDoorPlainL37
namespace Go.Proofs.YtmcodendnpjlaaaDoor
open Go.RowKit
attribute [local go_sem] Oper.semAt_some

structure TwoI (i k n : Nat) : Prop where
  y1 : (0 : Int) ≤ (i : Int)
  y2 : (i : Int) < (n : Int)
  y3 : (0 : Int) ≤ (k : Int)
  y4 : (k : Int) < (n : Int)
  y5 : (k : Int) < (i : Int)
  nk : k + 1 ≤ i
theorem twoI {i k n : Nat} (hi : i < n) (hk : k < i) : TwoI i k n := ⟨by omega, by omega, by omega, by omega, by omega, by omega⟩
theorem beq_str {a b : ByteArray} (h : a = b) : (a.toList == b.toList) = true := by rw [h]; exact beq_self_eq_true _
theorem bne_str {a b : ByteArray} (h : a ≠ b) : (a.toList == b.toList) = false := by
  refine beq_eq_false_iff_ne.2 (fun e => h (bs_inj ?_))
  rw [ByteArray.toList_eq, ByteArray.toList_eq] at e
  simp [bs, e]
theorem diff_next {E : List Ps} {i : Nat} (h : ∀ a, a < i → ∀ b, b < a → (E.getD a Ps.zero).s ≠ (E.getD b Ps.zero).s) (h2 : ∀ b, b < i → (E.getD i Ps.zero).s ≠ (E.getD b Ps.zero).s) : ∀ a, a < i + 1 → ∀ b, b < a → (E.getD a Ps.zero).s ≠ (E.getD b Ps.zero).s := fun a ha b hb => by
  by_cases e : a = i
  · subst e; exact h2 b hb
  · exact h a (by omega) b hb
theorem diff_all {E : List Ps} {n : Nat} (h : ∀ a, a < n → ∀ b, b < a → (E.getD a Ps.zero).s ≠ (E.getD b Ps.zero).s) : ∀ i k, i < n → k < n → (E.getD i Ps.zero).s = (E.getD k Ps.zero).s → i = k := fun i k hi hk e => by
  rcases Nat.lt_trichotomy i k with h1 | h1 | h1
  · exact absurd e.symm (h k hk i h1)
  · exact h1
  · exact absurd e (h i hi k h1)
theorem XR.outs {w wr : World} {o1 o2 : Option Addr} {n c1 c2 : Nat} {oL : Option Addr} {out : List Ps} {of : List Nat} {left : List Int} (h : XR w wr (.slice o1 n c1) (.slice o2 n c2) oL out (toN of) left) : Pss wr o1 out ∧ Ints wr o2 (toN of) := by
  have h1 := ownsRow_shape h.ro
  have h2 := ownsRow_shape h.rf
  obtain ⟨_, _, e1⟩ := h1
  obtain ⟨_, _, e2⟩ := h2
  injection e1 with _ e1
  injection e2 with _ e2
  exact ⟨Row.pss (w2 := w) ⟨h.ro, h.below⟩ (by rw [e1]), Row.ints (w2 := w) ⟨h.rf, h.below⟩ (by rw [e2])⟩
theorem outL_sz {EE : List Ps} {of : List Nat} {M : Int} (h : ∀ x ∈ EE, x.s.size ≤ 9223372036854775807) : ∀ x ∈ outL EE M of, x.s.size ≤ 9223372036854775807 := fun x hx => by
  obtain ⟨i, _, rfl⟩ := List.mem_map.1 hx
  simp only
  by_cases hlt : of.getD i 0 < EE.length
  · refine h _ ?_
    rw [List.getD_eq_getElem?_getD, List.getElem?_eq_getElem hlt]
    exact List.getElem_mem hlt
  · rw [List.getD_eq_getElem?_getD, List.getElem?_eq_none (by omega)]
    show ByteArray.empty.size ≤ _
    decide

set_option maxRecDepth 100000 in
set_option maxHeartbeats 16000000 in
theorem MatchRight_walk (w : World) (hT : Tab w) (oe : Option Addr) (ce : Nat) (E : List Ps) (he : Pss w oe E) (hle : E.length ≤ 6000000000000) (_hec : E.length ≤ ce) (hes : ∀ x ∈ E, x.s.size ≤ 9223372036854775807) (oo : Option Addr) (co : Nat) (ord : List Nat) (ho : U8s w oo ord) (hol : ord.length ≤ 9000000000000000000) :
    Calls Tryd.prog 5 #[.slice oe E.length ce, .slice oo ord.length co] w (Ret (.bool true) w) := by
  have HE := Lib.hid he
  have HO := Lib.hid ho
  have HT := Lib.hid hT
  have HES := Lib.hid hes
  have HLE := Lib.hid (show E.length ≤ 9000000000000000000 by omega)
  clear he ho hT hes
  go_enter Tryd.func5, Tryd.ntmps5
  go_wp2_with fail
  refine (head_any w HT.out).mono ?_
  rintro _ W1 ⟨rfl, hb⟩
  have HB1 := Lib.hid hb
  clear hb
  go_wp2_with fail
  refine (RValidL_any oe ce E W1 (HE.out.later HB1.out) HLE.out HES.out).mono ?_
  rintro _ W2 ⟨rfl, hb⟩
  have HB2 := Lib.hid (below_step HB1.out hb)
  clear hb HB1
  cases hve : validP E with
  | false =>
    go_wp2
    go_ret
    exact ⟨rfl, HB2.out⟩
  | true =>
  have HVE := Lib.hid hve
  have HE8 := Lib.hid (validP_len hve)
  clear hve
  go_wp2
  go_loopw [20] (fun i wr => ∃ k : Nat, k ≤ E.length ∧ i = .int .i64 k ∧ Below w.heap.size w wr ∧ ∀ a, a < k → ∀ b, b < a → (E.getD a Ps.zero).s ≠ (E.getD b Ps.zero).s) (fun i _ => E.length - (intOf i).toNat)
  case atStart => exact ⟨0, Nat.zero_le _, rfl, HB2.out, fun a ha => absurd ha (Nat.not_lt_zero _)⟩
  case round =>
    obtain ⟨i, hi, rfl, hb, hdf⟩ := hrel
    have HB := Lib.hid hb
    have HDF := Lib.hid hdf
    clear hb hdf HB2
    by_cases hlt : i < E.length
    · have HI1 := Lib.hid (show i + 1 ≤ E.length from hlt)
      have y1 : (0 : Int) ≤ (i : Int) := Int.natCast_nonneg i
      have y2 : (i : Int) < (E.length : Int) := Int.ofNat_lt.2 hlt
      go_wp2
      go_loopw [24] (fun k wr => ∃ j : Nat, j ≤ i ∧ k = .int .i64 j ∧ Below w.heap.size w wr ∧ ∀ b, b < j → (E.getD i Ps.zero).s ≠ (E.getD b Ps.zero).s) (fun k _ => i - (intOf k).toNat)
      case atStart => exact ⟨0, Nat.zero_le _, rfl, HB.out, fun b hb => absurd hb (Nat.not_lt_zero _)⟩
      case round =>
        obtain ⟨k, hk, rfl, hb, hdk⟩ := hrel
        have HBk := Lib.hid hb
        have HDK := Lib.hid hdk
        clear hb hdk HB
        by_cases hki : k < i
        · have HTW := Lib.hid (twoI hlt hki)
          have y3 := HTW.out.y3
          have y4 := HTW.out.y4
          have y5 := HTW.out.y5
          obtain ⟨g, off, hgo, a0, a1⟩ := (HE.out.later HBk.out) i hlt
          subst hgo
          obtain ⟨g2, off2, hgo2, b0, b1⟩ := (HE.out.later HBk.out) k (Nat.lt_trans hki hlt)
          injection hgo2 with hgo2
          injection hgo2 with hgo2 hgo3
          subst hgo2
          subst hgo3
          obtain ⟨pi, hpi⟩ : ∃ q, E.getD i Ps.zero = q := ⟨_, rfl⟩
          obtain ⟨pk, hpk⟩ : ∃ q, E.getD k Ps.zero = q := ⟨_, rfl⟩
          rw [hpi] at a0 a1
          rw [hpk] at b0 b1
          have HPI := Lib.hid hpi
          have HPK := Lib.hid hpk
          clear hpi hpk
          by_cases hs : pi.s = pk.s
          · have hsb := beq_str hs
            clear hs
            go_wp2_with fail
            go_quiet (fail)
            go_wp2
            go_ret
            exact ⟨rfl, below_drewN HBk.out _⟩
          · have hsb := bne_str hs
            have HNE := Lib.hid (show (E.getD i Ps.zero).s ≠ (E.getD k Ps.zero).s by rw [HPI.out, HPK.out]; exact hs)
            clear hs
            by_cases hmm : (52559990 : Int) < pi.mn
            · have hd : decide ((52559990 : Int) < pi.mn) = true := decide_eq_true hmm
              clear hmm
              go_wp2_with fail
              go_quiet (fail)
              go_wp2
              go_ret
              exact ⟨rfl, below_drewN HBk.out _⟩
            · have hd : decide ((52559990 : Int) < pi.mn) = false := decide_eq_false hmm
              clear hmm
              go_wp2_with fail
              go_quiet (fail)
              go_wp2
              go_roundw
              case rel => exact ⟨k + 1, HTW.out.nk, by go_num, below_drewN HBk.out _, fun b hb => by
                by_cases e : b = k
                · subst e; exact HNE.out
                · exact HDK.out b (Nat.lt_of_le_of_ne (Nat.le_of_lt_succ hb) e)⟩
              case measure => simp [intOf]; omega
        · obtain rfl : k = i := Nat.le_antisymm hk (Nat.not_lt.1 hki)
          have HNX := Lib.hid (diff_next HDF.out HDK.out)
          go_wp2
          go_roundw
          case rel => exact ⟨k + 1, HI1.out, by go_num, HBk.out, HNX.out⟩
          case measure => simp [intOf]; omega
    · obtain rfl : i = E.length := Nat.le_antisymm hi (Nat.not_lt.1 hlt)
      have HDA := Lib.hid (diff_all HDF.out)
      go_wp2_with fail
      refine (exitsOf_any oe oo ce co E ord _ (HE.out.later HB.out) (HO.out.later HB.out) HE8.out (validP_bounds HVE.out) hol).mono ?_
      rintro _ W3 ⟨of, M, o1, o2, c1, c2, rfl, hxr, hpm, hmj, hm0, hm1⟩
      have HXR := Lib.hid hxr
      have HXO := Lib.hid hxr.outs
      have HXF := Lib.hid (show ExF E of M from ⟨hpm, hmj⟩)
      have HN := Lib.hid (show of.length = E.length from by have := hpm.length_eq; rwa [List.length_range] at this)
      have HB3 := Lib.hid (below_step HB.out hxr.below)
      clear hxr hpm hmj hm0 hm1 HB HDF
      have HRV := RValidL_any o1 c1 (outL E M of) W3 HXO.out.1 (by rw [outL_len, HN.out]; exact HLE.out) (outL_sz HES.out)
      rw [outL_len, HN.out] at HRV
      have HRV' := Lib.hid HRV
      clear HRV
      go_wp2_with fail
      refine HRV'.out.mono ?_
      rintro _ W4 ⟨rfl, hb⟩
      have HB4 := Lib.hid (below_step HB3.out hb)
      have HX4 := Lib.hid (HXO.out.1.later hb)
      have HI4 := Lib.hid (HXO.out.2.later hb)
      clear hb HB3 HXO HRV' HXR
      cases hvx : validP (outL E M of) with
      | false =>
        go_wp2
        go_ret
        exact ⟨rfl, HB4.out⟩
      | true =>
      have HRB := Lib.hid (right_best HXF.out HVE.out hvx HDA.out)
      have HMC := Match_any oe o1 ce c1 E (outL E M of) W4 (HE.out.later HB4.out) HX4.out (HT.out.below HB4.out) HLE.out (by rw [outL_len, HN.out]; exact HLE.out)
      rw [outL_len, HN.out] at HMC
      have HMC' := Lib.hid HMC
      have HVX := Lib.hid hvx
      clear HMC hvx
      go_wp2_with fail
      refine HMC'.out.mono ?_
      rintro _ W5 ⟨hb, ⟨hv, oA, cA, rfl, hta⟩ | ⟨hv, _⟩⟩
      rotate_left
      · rw [HVE.out, HVX.out] at hv
        cases hv
      have HB5 := Lib.hid (below_step HB4.out hb)
      have HA5 := Lib.hid hta
      have HI5 := Lib.hid (HI4.out.later hb)
      clear hb hta hv HB4 HX4 HI4 HMC'
      obtain ⟨F, hF⟩ : ∃ F, best E (outL E M of) = F := ⟨_, rfl⟩
      rw [hF] at HRB HA5 ⊢
      clear hF
      have hcost := HRB.out.1
      have HPL := Lib.hid (HRB.out.2.1.trans HN.out.symm)
      have HPA := paired_any oA o2 cA c2 (toI F.pairs) of W5 HA5.out HI5.out (by rw [toI_length]; exact HPL.out) (by rw [HN.out]; exact HE8.out) (by rw [HN.out]; exact HRB.out.2.2)
      rw [HN.out] at HPA
      have HPA' := Lib.hid HPA
      have hpl := HRB.out.2.1
      clear HPA
      go_wp2_with fail
      refine HPA'.out.mono ?_
      rintro _ W6 ⟨rfl, hb⟩
      have HB6 := Lib.hid (below_step HB5.out hb)
      clear hb HB5 HPA'
      go_wp2
      go_ret
      exact ⟨rfl, HB6.out⟩
end Go.Proofs.YtmcodendnpjlaaaDoor