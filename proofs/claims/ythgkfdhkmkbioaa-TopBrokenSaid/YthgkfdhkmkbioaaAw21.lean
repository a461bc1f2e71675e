/- The first slot carried out: what can be carried out, admit.Advance. -/
import Derived.Test.YthgkfdhkmkbioaaAv21
namespace Go.Proofs.Ythgkfdhkmkbioaa
open Go.RowKit Go.Shelf
attribute [local go_sem] Oper.semAt_some

/-- What jobs may have got in the first slot. -/
structure DoneOk (J : List Jb) (S : List Int) (D : List Int) : Prop where
  len : D.length = J.length
  pos : 0 < S.length
  d : ∀ i, i < J.length → 0 ≤ D.getD i 0 ∧ D.getD i 0 ≤ (getJ J i).r ∧ D.getD i 0 ≤ (getJ J i).e ∧ (0 < D.getD i 0 → (getJ J i).f = 0 ∧ 0 < (getJ J i).t)
  sum : sumN J.length (fun i => D.getD i 0) ≤ S.getD 0 0
set_option maxRecDepth 100000 in
set_option maxHeartbeats 4000000 in
theorem validDone_ok (w : World) (J : List Jb) (S D : List Int) (oj os od : Option Addr) (cj cs cd : Nat) (hj : JobsM w oj J) (hs : Ints w os S) (hd : Ints w od D) (hv : ValidP J S) (h : DoneOk J S D) :
    Calls Try.prog 40 #[.slice oj J.length cj, .slice os S.length cs, .slice od J.length cd] w (Ret (.bool true) w) := by
  have HJ := Lib.hid hj
  have HS := Lib.hid hs
  have HD := Lib.hid hd
  have HV := Lib.hid hv
  have HH := Lib.hid h
  have hn12 := hv.j12
  have hm24 := hv.s24
  have hpos := h.pos
  clear hj hs hd hv h
  have HVA := Lib.hid (pvalid_any J S oj os cj cs w HJ.out HS.out)
  rw [validP_iff.2 HV.out] at HVA
  have e0 : ((S.length : Int) == 0) = false := beq_eq_false_iff_ne.2 (by omega)
  have e0n : (S.length == 0) = false := beq_eq_false_iff_ne.2 (by omega)
  have HSB := Lib.hid (fun k (hk : k ≤ J.length) => sumN_bd (f := fun i => D.getD i 0) (k := k) (fun i hi => by have h1 := HH.out.d i (by omega); have h2 := (HV.out.j _ (getJ_mem (i := i) (by omega))).r1; exact ⟨h1.1, by omega⟩))
  go_enter Try.func40, Try.ntmps40
  go_wp2_with fail
  refine HVA.out.mono ?_
  rintro _ W1 ⟨rfl, hb1⟩
  have HB1 := Lib.hid hb1
  clear hb1 HVA
  obtain ⟨b0, off0, rfl, s0⟩ := (HS.out.later HB1.out) 0 hpos
  rw [Nat.add_zero] at s0
  have hs0 : 0 ≤ S.getD 0 0 ∧ S.getD 0 0 ≤ 1000 := HV.out.s _ (by rw [List.getD_eq_getElem?_getD, List.getElem?_eq_getElem hpos]; exact List.getElem_mem hpos)
  have HSU := Lib.hid HH.out.sum
  obtain ⟨sv, hsv⟩ : ∃ x, S.getD 0 0 = x := ⟨_, rfl⟩
  rw [hsv] at s0 hs0 HSU
  clear hsv
  go_wp2_with fail
  go_loopw [7, 32] (fun v iv wr => ∃ k : Nat, k ≤ J.length ∧ iv = .int .i64 k ∧ v = .int .i64 (sv - sumN k (fun i => D.getD i 0)) ∧ Below w.heap.size w wr) (fun _ iv _ => J.length - (intOf iv).toNat)
  case atStart => exact ⟨0, Nat.zero_le _, rfl, by show Value.int .i64 sv = .int .i64 (sv - 0); rw [Int.sub_zero], HB1.out⟩
  case round =>
    obtain ⟨k, hk, rfl, rfl, hb⟩ := hrel
    obtain ⟨wA, rfl⟩ : ∃ wA : World, wA = wr := ⟨_, rfl⟩
    clear HB1 s0
    have HB := Lib.hid hb
    clear hb
    have hsk := HSB.out k hk
    by_cases hlt : k < J.length
    · obtain ⟨b2, off2, rfl, d0⟩ := (HD.out.later HB.out) k (by rw [HH.out.len]; exact hlt)
      obtain ⟨b, off, rfl, c0, c1, c2, c3, c4⟩ := (HJ.out.later HB.out) k hlt
      have HQ := Lib.hid (HH.out.d k hlt)
      have HE := Lib.hid (HV.out.j _ (getJ_mem hlt))
      have HSN := Lib.hid (show sumN (k + 1) (fun i => D.getD i 0) = sumN k (fun i => D.getD i 0) + D.getD k 0 from rfl)
      have hsk1 := HSB.out (k + 1) hlt
      rw [HSN.out] at hsk1
      obtain ⟨A, hA⟩ : ∃ x, sumN k (fun i => D.getD i 0) = x := ⟨_, rfl⟩
      rw [hA] at hsk hsk1 HSN ⊢
      clear hA
      obtain ⟨d, hd⟩ : ∃ x, D.getD k 0 = x := ⟨_, rfl⟩
      rw [hd] at d0 HQ HSN hsk1
      clear hd
      obtain ⟨j, hj⟩ : ∃ j, getJ J k = j := ⟨_, rfl⟩
      rw [hj] at c0 c1 c2 c3 c4 HQ HE
      clear hj
      have q1 := HQ.out.1
      have q2 := HQ.out.2.1
      have q3 := HQ.out.2.2.1
      have y1 : (0 : Int) ≤ (k : Int) := by omega
      have y2 : (k : Int) < (J.length : Int) := by omega
      have n1 : decide (d < 0) = false := decide_eq_false (by omega)
      have n2 : decide (j.r < d) = false := decide_eq_false (by omega)
      have n3 : decide (j.e < d) = false := decide_eq_false (by omega)
      by_cases hd0 : 0 < d
      · have n4 : decide (0 < d) = true := decide_eq_true hd0
        have n5 : j.f = 0 := (HQ.out.2.2.2 hd0).1
        have n6 : (j.t == 0) = false := beq_eq_false_iff_ne.2 (by have := (HQ.out.2.2.2 hd0).2; omega)
        go_wp2
        exact ⟨⟨k + 1, hlt, by go_num, by rw [HSN.out]; exact congrArg (Value.int .i64) (by omega), below_alloc HB.out _⟩, meas_lt hlt⟩
      · have n4 : decide (0 < d) = false := decide_eq_false hd0
        go_wp2
        exact ⟨⟨k + 1, hlt, by go_num, by rw [HSN.out]; exact congrArg (Value.int .i64) (by omega), below_alloc HB.out _⟩, meas_lt hlt⟩
    · obtain rfl : k = J.length := by omega
      clear hlt hk
      obtain ⟨A, hA⟩ : ∃ x, sumN J.length (fun i => D.getD i 0) = x := ⟨_, rfl⟩
      rw [hA] at hsk HSU ⊢
      clear hA
      have hge : decide (A ≤ sv) = true := decide_eq_true (by have := HSU.out; omega)
      go_wp2
      go_ret
      exact ⟨rfl, HB.out⟩
def RowsOut (A : List Jb) (B : List Int) (w : World) (e : Ending) (w' : World) : Prop := Below w.heap.size w w' ∧ ∃ v1 v2, e = .returned (.tuple #[v1, v2, .int .i64 0]) ∧ w'.ownsRow w.heap.size 27 5 v1 A.length (flatJ A) ∧ w'.ownsRow w.heap.size 3 1 v2 B.length (intsV B)
theorem tail_ints {w : World} {b off : Nat} {S : List Int} (h : Ints w (some ⟨b, off, none⟩) S) : Ints w (some ⟨b, off + 1, none⟩) (S.drop 1) := fun i hi => by
  rw [List.length_drop] at hi
  obtain ⟨b', off', e, c⟩ := h (i + 1) (by omega)
  cases e
  refine ⟨b, off + 1, rfl, ?_⟩
  rw [show (S.drop 1).getD i 0 = S.getD (i + 1) 0 by rw [List.getD_eq_getElem?_getD, List.getElem?_drop, List.getD_eq_getElem?_getD, Nat.add_comm 1 i], show off + 1 + i = off + (i + 1) by omega]
  exact c
set_option maxRecDepth 100000 in
set_option maxHeartbeats 4000000 in
theorem advance_any (w : World) (J : List Jb) (S D : List Int) (oj os od : Option Addr) (cj cs cd : Nat) (hj : JobsM w oj J) (hs : Ints w os S) (hd : Ints w od D) (hv : ValidP J S) (h : DoneOk J S D) (hcs : S.length ≤ cs) :
    Calls Try.prog 26 #[.slice oj J.length cj, .slice os S.length cs, .slice od J.length cd] w (RowsOut (advL J D) (S.drop 1) w) := by
  obtain ⟨W1, hW1⟩ : ∃ W, W = w.alloc (.cells #[.slice od J.length cd] 23) := ⟨_, rfl⟩
  have hb1 : Below w.heap.size w W1 := by rw [hW1]; exact below_alloc (Below.refl _ _) _
  have HB1 := Lib.hid hb1
  have HX := Lib.hid (show Blk W1 w.heap.size 23 #[.slice od J.length cd] by rw [hW1]; exact Blk.new ..)
  have HJ := Lib.hid (hj.later hb1)
  have HS := Lib.hid (hs.later hb1)
  have HD := Lib.hid (hd.later hb1)
  have HV := Lib.hid hv
  have HH := Lib.hid h
  have hn12 := hv.j12
  have hm24 := hv.s24
  have hpos := h.pos
  obtain ⟨bs, os, rfl, _⟩ := hs 0 hpos
  clear hj hs hd hv h hb1
  have HVD := Lib.hid (validDone_ok W1 J S D oj (some ⟨bs, os, none⟩) od cj cs cd HJ.out HS.out HD.out HV.out HH.out)
  obtain ⟨T, hT⟩ : ∃ T, S.drop 1 = T := ⟨_, rfl⟩
  have HT0 := Lib.hid hT
  rw [hT]
  clear hT
  go_enter Try.func26, Try.ntmps26
  go_upto_region 1 with (fail)
  rw [← hW1]
  clear hW1
  have x0 := HX.out.cell 0
  go_wp2_with fail
  refine HVD.out.mono ?_
  rintro _ W2 ⟨rfl, hb2⟩
  have HB2 := Lib.hid (below_step HB1.out hb2)
  have HX2 := Lib.hid (HX.out.later hb2)
  have HMJ := Lib.hid (mapJ_any J D oj od cj cd w.heap.size W2 (HJ.out.later hb2) (by rw [HH.out.len]; exact HX2.out.cell 0) (HD.out.later hb2) HH.out.len (by omega) (fun i hi => by
    have h1 := HV.out.j _ (getJ_mem hi)
    have h2 := HH.out.d i hi
    exact ⟨by have := h1.f0; omega, by have := h1.ft; have := h1.tm; omega, by have := h1.f0; have := h1.ft; omega, by have := h1.tm; omega, by have := h1.e0; omega, by have := h1.e1; omega, by omega, by have := h1.r1; omega⟩))
  have HS2 := Lib.hid (HS.out.later hb2)
  clear hb2 HVD x0 HX
  go_wp2_with fail
  refine HMJ.out.mono ?_
  rintro _ W3 ⟨hb3, v3, rfl, hr3⟩
  have HB3 := Lib.hid (below_step HB2.out hb3)
  have HR3 := Lib.hid (hr3.mono HB2.out.size)
  clear hr3 HMJ
  have HTI := Lib.hid (tail_ints (HS2.out.later hb3))
  have hTL : (S.drop 1).length = S.length - 1 := List.length_drop ..
  rw [HT0.out] at HTI hTL
  by_cases hc1 : cs = 1
  · subst hc1
    have HT : Hid (Ints W3 (some ⟨bs, os, none⟩) T) := Lib.hid (fun i hi => by omega)
    have HMI := Lib.hid (mapI_any T (some ⟨bs, os, none⟩) 0 W3 HT.out (by omega))
    rw [show T.length = 0 by omega] at HMI
    clear hb3
    go_wp2_with fail
    refine HMI.out.mono ?_
    rintro _ W4 ⟨hb4, v4, rfl, hr4⟩
    have HB4 := Lib.hid (below_step HB3.out hb4)
    have HR4 := Lib.hid (ownsRow_later HR3.out hb4)
    have HI4 := Lib.hid (hr4.mono HB3.out.size)
    clear hb4 hr4 HMI
    go_wp2
    go_ret3
    exact ⟨HB4.out, _, _, rfl, HR4.out, HI4.out⟩
  · have HT := Lib.hid HTI.out
    have HMI := Lib.hid (mapI_any T (some ⟨bs, os + 1, none⟩) (cs - 1) W3 HT.out (by omega))
    clear hb3
    go_wp2_with fail
    rw [← hTL]
    refine HMI.out.mono ?_
    rintro _ W4 ⟨hb4, v4, rfl, hr4⟩
    have HB4 := Lib.hid (below_step HB3.out hb4)
    have HR4 := Lib.hid (ownsRow_later HR3.out hb4)
    have HI4 := Lib.hid (hr4.mono HB3.out.size)
    clear hb4 hr4 HMI
    go_wp2
    go_ret3
    exact ⟨HB4.out, _, _, rfl, HR4.out, HI4.out⟩
end Go.Proofs.Ythgkfdhkmkbioaa
