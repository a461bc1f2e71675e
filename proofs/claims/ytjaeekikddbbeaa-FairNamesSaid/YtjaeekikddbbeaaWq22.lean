/- Chapter 22: FairNames. -/
import Derived.Test.YtjaeekikddbbeaaWp22
import Derived.Deep.Cut
import Derived.Deep.CutRange
import Derived.Deep.DeepCutAuto
import Derived.Deep.OwnRows
import Derived.RegionTactic
import Derived.BigRegion
namespace Go.Proofs.Ytjaeekikddbbeaa
open Go.RowKit
attribute [local go_sem] Oper.semAt_some

/-- The turned rows so far; none of their members lies in the block of the rows themselves. -/
structure TurnAt (rows : List Rw) (n : Nat) (wr : World) (v : Value) (k : Nat) (TL : List RwA) : Prop where
  len : TL.length = k
  row : ∀ i, i < k → (TL.getD i ⟨Rw.zero, none, 0⟩).r = turnR n (getW rows i)
  good : ∀ a ∈ TL, a.r.ms.length ≤ 9000000000000000000 ∧ a.r.ms.length ≤ a.cap ∧ IntsS v.ownBlock.toList wr a.o a.r.ms
theorem TurnAt.later {rows : List Rw} {n : Nat} {wr w' : World} {v : Value} {k : Nat} {TL : List RwA} (h : TurnAt rows n wr v k TL) (hb : Below wr.heap.size wr w') : TurnAt rows n w' v k TL :=
  ⟨h.len, h.row, fun a ha => by
    obtain ⟨h1, h2, h3⟩ := h.good a ha
    exact ⟨h1, h2, h3.agr (Agr.of_below (S := []) hb) (fun b hb => by cases hb)⟩⟩
theorem IntsS.grow {wr w' : World} {v v' : Value} {o : Option Addr} {l : List Int} {ob : Obj} (h : IntsS v.ownBlock.toList wr o l) (hg : (wr.alloc ob).grownBy w' v.ownBlock) (hat : v'.ownBlock = v.ownBlock ∨ v'.ownBlock = some (wr.heap.size + 1)) : IntsS v'.ownBlock.toList w' o l := fun i hi => by
  obtain ⟨b, off, h1, h2, h3⟩ := h i hi
  have hlt := cell_lt h3
  simp only at hlt
  refine ⟨b, off, h1, ?_, ?_⟩
  · rcases hat with e | e
    · rw [e]; exact h2
    · rw [e]; simp; omega
  · have h4 := cell_kept (below_alloc (Below.refl wr.heap.size wr) ob) h3
    exact (World.cell?_of_block (a := ⟨b, off + i, none⟩) (hg.block b (cell_lt h4) (fun e => h2 (by rw [← e]; simp)))).trans h4
theorem TurnAt.app {rows : List Rw} {n : Nat} {wr w' : World} {v v' : Value} {k : Nat} {TL : List RwA} {ob : Obj} {a : RwA} (h : TurnAt rows n wr v k TL) (h1 : a.r = turnR n (getW rows k)) (h3 : a.r.ms.length ≤ 9000000000000000000 ∧ a.r.ms.length ≤ a.cap ∧ IntsS v.ownBlock.toList wr a.o a.r.ms) (hg : (wr.alloc ob).grownBy w' v.ownBlock) (hat : v'.ownBlock = v.ownBlock ∨ v'.ownBlock = some (wr.heap.size + 1)) : TurnAt rows n w' v' (k + 1) (TL ++ [a]) := by
  refine ⟨by simp [h.len], fun i hi => ?_, fun b hb => ?_⟩
  · rw [List.getD_eq_getElem?_getD]
    by_cases hik : i < k
    · rw [List.getElem?_append_left (by rw [h.len]; exact hik), ← List.getD_eq_getElem?_getD]
      exact h.row i hik
    · obtain rfl : i = k := by omega
      rw [List.getElem?_append_right (by rw [h.len]; omega), h.len, Nat.sub_self]
      exact h1
  · rcases List.mem_append.1 hb with hb | hb
    · obtain ⟨g1, g2, g3⟩ := h.good b hb
      exact ⟨g1, g2, g3.grow hg hat⟩
    · simp at hb; subst hb; exact ⟨h3.1, h3.2.1, h3.2.2.grow hg hat⟩
theorem TurnAt.rws {rows : List Rw} {n : Nat} {wr : World} {base k : Nat} {TL : List RwA} {oo : Option Addr} {cap : Nat} (h : TurnAt rows n wr (.slice oo k cap) k TL) (hr : wr.ownsRow base 34 2 (.slice oo k cap) k (flatW TL)) : Rws wr oo (TL.map (·.r)) := fun i hi => by
  have hi' : i < TL.length := by simpa using hi
  obtain ⟨h1, h2⟩ := flatW_get TL i hi'
  rcases hr.2 with ⟨_, hk⟩ | ⟨g, cap', cur, hv, _⟩
  · rw [h.len] at hi'; omega
  · injection hv with e1 e2 e3
    subst e1 e3
    have c0 := (hr.cellAt (i * 2) (by rw [h.len] at hi'; omega)).trans h1
    have c1 := (hr.cellAt (i * 2 + 1) (by rw [h.len] at hi'; omega)).trans h2
    have hmem : TL.getD i ⟨Rw.zero, none, 0⟩ ∈ TL := by
      rw [List.getD_eq_getElem?_getD, List.getElem?_eq_getElem hi']
      exact List.getElem_mem hi'
    obtain ⟨g1, g2, g3⟩ := h.good _ hmem
    have e : getW (TL.map (·.r)) i = (TL.getD i ⟨Rw.zero, none, 0⟩).r := by simp [getW, hi']
    refine ⟨g, 0, rfl, ?_⟩
    rw [e, Nat.zero_add]
    exact ⟨_, _, g1, g2, g3.ints, c0, c1⟩
theorem TurnAt.map {rows : List Rw} {n : Nat} {wr : World} {v : Value} {TL : List RwA} (h : TurnAt rows n wr v rows.length TL) : TL.map (·.r) = rows.map (turnR n) := by
  apply List.ext_getElem
  · simp [h.len]
  · intro i h1 h2
    have hi : i < rows.length := by simpa using h2
    have hi' : i < TL.length := by simpa using h1
    have := h.row i hi
    simpa [getW, hi, hi'] using this

theorem ownsRow_intsS {W : World} {base : Nat} {e : TypeId} {o : Option Addr} {n cap : Nat} {l : List Int} {S : List Nat} (h : W.ownsRow base e 1 (.slice o n cap) n (l.map (Value.int .i64 ·))) (hn : l.length = n) (hS : ∀ b ∈ S, b < base) : IntsS S W o l := fun i hi => by
  rcases h.2 with ⟨_, hk⟩ | ⟨g, cap', cur, hv, hg, _⟩
  · omega
  · injection hv with e1 e2 e3
    subst e1 e3
    have c0 := h.cellAt i (by omega)
    refine ⟨g, 0, rfl, fun hb => ?_, ?_⟩
    · have := hS g hb
      omega
    · rw [Nat.zero_add, c0]
      simp [hi]
def hiL (most : List Int) (n i : Nat) : List Int := (List.range n).map (fun q => if n - 1 - q < i then most.getD (n - 1 - q) 0 else 0)
def afL (order : List Int) (n i : Nat) : List Int := (List.range n).map (fun q => if q < i then (n : Int) - 1 - order.getD q 0 else 0)
theorem hiL_len (most : List Int) (n i : Nat) : (hiL most n i).length = n := by simp [hiL]
theorem afL_len (order : List Int) (n i : Nat) : (afL order n i).length = n := by simp [afL]
theorem hiL_zero (most : List Int) (n : Nat) : hiL most n 0 = List.replicate n 0 := by
  apply List.ext_getElem
  · simp [hiL]
  · intro i h1 h2; simp [hiL]
theorem afL_zero (order : List Int) (n : Nat) : afL order n 0 = List.replicate n 0 := by
  apply List.ext_getElem
  · simp [afL]
  · intro i h1 h2; simp [afL]
theorem hiL_set (most : List Int) {n i q : Nat} (hi : i < n) (hq : q = n - 1 - i) : (hiL most n i).set q (most.getD i 0) = hiL most n (i + 1) := by
  subst hq
  apply List.ext_getElem
  · simp [hiL]
  · intro j h1 h2
    have hj : j < n := by simpa [hiL] using h2
    rw [List.getElem_set]
    simp only [hiL, List.getElem_map, List.getElem_range]
    by_cases e : n - 1 - i = j
    · subst e
      rw [if_pos rfl, show n - 1 - (n - 1 - i) = i by omega, if_pos (by omega)]
    · rw [if_neg e]
      by_cases h : n - 1 - j < i
      · rw [if_pos h, if_pos (by omega)]
      · rw [if_neg h, if_neg (by omega)]
theorem afL_set (order : List Int) {n i : Nat} : (afL order n i).set i ((n : Int) - 1 - order.getD i 0) = afL order n (i + 1) := by
  apply List.ext_getElem
  · simp [afL]
  · intro j h1 h2
    have hj : j < n := by simpa [afL] using h2
    rw [List.getElem_set]
    simp only [afL, List.getElem_map, List.getElem_range]
    by_cases e : i = j
    · subst e
      rw [if_pos rfl, if_pos (by omega)]
    · rw [if_neg e]
      by_cases h : j < i
      · rw [if_pos h, if_pos (by omega)]
      · rw [if_neg h, if_neg (by omega)]
theorem hiL_end (most : List Int) : hiL most most.length most.length = most.reverse := by
  apply List.ext_getElem
  · simp [hiL]
  · intro j h1 h2
    have hj : j < most.length := by simpa [hiL] using h1
    have h3 : most.length - 1 - j < most.length := by omega
    simp [hiL, h3]
theorem afL_end {order : List Int} {n : Nat} (h : order.length = n) : afL order n n = turnI n order := by
  subst h
  apply List.ext_getElem
  · simp [afL, turnI]
  · intro j h1 h2
    have hj : j < order.length := by simpa [afL] using h1
    simp [afL, turnI, hj]

/-- The loop over the rows. -/
def TurnRel (W : World) (rows : List Rw) (n : Nat) (v i : Value) (wr : World) : Prop :=
  ∃ (k : Nat) (TL : List RwA), k ≤ rows.length ∧ i = .int .i64 k ∧ TurnAt rows n wr v k TL ∧ wr.ownsRow W.heap.size 34 2 v k (flatW TL) ∧ Below W.heap.size W wr
/-- The loop over the members of a row. -/
def MemRel (Wi : World) (Bt n : Nat) (r : Rw) (i : Value) (wr : World) : Prop :=
  ∃ (j : Nat) (vs : Value), j ≤ r.ms.length ∧ i = .int .i64 ((j : Int) - 1) ∧ Blk wr Bt 34 #[.int .i64 r.c, vs] ∧ wr.ownsRow Wi.heap.size 3 1 vs (r.ms.length - j) ((turnI n (r.ms.drop j)).reverse.map (Value.int .i64 ·)) ∧ Agr Wi wr [Bt]
theorem turnI_drop {n : Nat} {l : List Int} {j : Nat} (h : j < l.length) : (turnI n (l.drop j)).reverse = (turnI n (l.drop (j + 1))).reverse ++ [(n : Int) - 1 - l.getD j 0] := by
  rw [dropI h]
  simp [turnI]
/-- The loop over the limits and the order. -/
def BothRel (W : World) (gh ga : Nat) (most order : List Int) (n : Nat) (i : Value) (wr : World) : Prop :=
  ∃ k : Nat, k ≤ n ∧ i = .int .i64 k ∧ Blk wr gh 3 (intsC (hiL most n k)) ∧ Blk wr ga 3 (intsC (afL order n k)) ∧ Agr W wr [gh, ga]
theorem made_ints (n : Nat) : madeCells #[Value.int .i64 0] n = intsC (List.replicate n 0) := by
  apply Array.ext'
  rw [toList_madeCells_one]
  simp [intsC]

set_option maxRecDepth 100000 in
set_option maxHeartbeats 16000000 in
theorem names_walk (oa : Option Addr) (ca : Nat) (rows : List Rw) (om : Option Addr) (cm : Nat) (most : List Int) (oo : Option Addr) (co : Nat) (order : List Int) (w : World) (hr : Rws w oa rows) (hl : rows.length ≤ 9000000000000000000) (h_most : Ints w om most) (h_order : Ints w oo order) : Calls Try.prog 8 #[.slice oa rows.length ca, .slice om most.length cm, .slice oo order.length co] w (Ret (.bool true) w) := by
  have HRW := Lib.hid hr
  clear hr
  have H_most := Lib.hid h_most
  clear h_most
  have H_order := Lib.hid h_order
  clear h_order
  go_enter Try.func8, Try.ntmps8
  go_wp2_with fail
  refine (head_any _).mono ?_
  rintro e x1 ⟨rfl, hb⟩
  have HW := Lib.hid hb
  clear hb
  have HALL := Lib.hid (below_alloc (Below.refl x1.heap.size x1) (.cells #[.slice om most.length cm, .slice oo order.length co] 23))
  have HLS := Lib.hid (show Lens (x1.alloc (.cells #[.slice om most.length cm, .slice oo order.length co] 23)) (some ⟨x1.heap.size, 0, none⟩) [most.length, order.length] from lit_lens x1 23 [(om, most.length, cm), (oo, order.length, co)])
  replace HW := Lib.hid (below_step HW.out HALL.out)
  clear HALL
  go_wp2_with fail
  refine (small_any oa (some ⟨x1.heap.size, 0, none⟩) ca 2 rows [most.length, order.length] _ (HRW.out.later HW.out) hl HLS.out (by simp)).mono ?_
  rintro e x2 ⟨rfl, hb⟩
  replace HW := Lib.hid (below_step HW.out hb)
  clear hb HLS
  obtain ⟨F, hF⟩ : ∃ F, smallB rows [most.length, order.length] = F := ⟨_, rfl⟩
  have HF := Lib.hid hF
  rw [hF]
  clear hF
  cases F with
  | false =>
    go_wp2
    go_ret
    exact ⟨rfl, HW.out⟩
  | true =>
  have HSM := Lib.hid (show (∀ n ∈ [most.length, order.length], n ≤ 100) ∧ fewR rows = true by have := HF.out; unfold smallB at this; rw [Bool.and_eq_true, lensOk_iff] at this; exact this)
  have hl_most : most.length ≤ 100 := HSM.out.1 _ (by simp)
  have hl_order : order.length ≤ 100 := HSM.out.1 _ (by simp)
  clear HF
  go_wp2_with fail
  refine (Share_any oa om oo ca cm co rows most order _ (HRW.out.later HW.out) (H_most.out.later HW.out) (H_order.out.later HW.out) hl (by omega) (by omega)).mono ?_
  rintro e x3 ⟨hb, ⟨hv, gx, hgx, rfl, hx⟩ | ⟨hv, rfl⟩⟩
  rotate_left
  · replace HW := Lib.hid (below_step HW.out hb)
    clear hb hv
    go_wp2
    go_ret
    exact ⟨rfl, HW.out⟩
  replace HW := Lib.hid (below_step HW.out hb)
  have HX := Lib.hid hx
  have HV := Lib.hid (show VL rows most ∧ isOrd order (most.length : Nat) = true by rw [Bool.and_eq_true] at hv; exact ⟨validLim_iff.1 hv.1, hv.2⟩)
  clear hb hx hv hgx
  have HLX := Lib.hid (share_fit HV.out.1 HV.out.2).len
  have HOL := Lib.hid (isOrd_iff.1 HV.out.2)
  have hr64 := HV.out.1.r64
  have hn64 := HV.out.1.n64
  have HOLN := Lib.hid (show order.length = most.length by have := HOL.out.1; omega)
  have HTURN := Lib.hid (share_turn HV.out.1 HV.out.2)
  have HVT := Lib.hid (turn_vl HV.out.1)
  have HOT := Lib.hid (turn_ord HV.out.2)
  obtain ⟨X, hX⟩ : ∃ X, shareF rows most order = X := ⟨_, rfl⟩
  rw [hX] at HX HLX HTURN
  clear hX
  obtain ⟨W, hWe⟩ : ∃ W, W = x3 := ⟨_, rfl⟩
  subst hWe
  go_wp2
  go_loopw [11, 48] (TurnRel W rows most.length) (fun _ i _ => rows.length - (intOf i).toNat)
  case atStart => exact ⟨0, [], Nat.zero_le _, rfl, ⟨rfl, fun i hi => absurd hi (by omega), fun a ha => by cases ha⟩, World.ownsRow_nil .., Below.refl _ _⟩
  case round =>
    obtain ⟨k, TL, hk, rfl, hta, hrow, hbel⟩ := hrel
    have HTA := Lib.hid hta
    have HROW := Lib.hid hrow
    have HBE := Lib.hid hbel
    clear hta hrow hbel
    have HBW := Lib.hid (below_step HW.out HBE.out)
    have hsz := HBE.out.size
    obtain ⟨ov, cv, hvs, _⟩ := ownsRow_shape' HROW.out
    subst hvs
    obtain ⟨O, hO⟩ : ∃ O, O = wr := ⟨_, rfl⟩
    subst hO
    by_cases hlt : k < rows.length
    · obtain ⟨g, off, hgo, orr, cp, hw1, hw2, hms, c0, c1⟩ := HRW.out k hlt
      subst hgo
      have HMB := Lib.hid (HV.out.1.row _ (getW_in hlt)).2.1
      have HAPP := Lib.hid (fun (wr w' : World) (v' : Value) (ob : Obj) (a : RwA) (h0 : Below O.heap.size O wr) h1 h3 hg hat => (HTA.out.later h0).app (v' := v') (w' := w') (ob := ob) (a := a) h1 h3 hg hat)
      replace c0 := cell_kept HBW.out c0
      replace c1 := cell_kept HBW.out c1
      replace hms := hms.later HBW.out
      obtain ⟨r, hrr⟩ : ∃ r, getW rows k = r := ⟨_, rfl⟩
      have HL100 := Lib.hid (show r.ms.length ≤ 100 by
        have h1 := HSM.out.2
        unfold fewR at h1
        rw [Bool.and_eq_true, List.all_eq_true] at h1
        have := h1.1 _ (getW_in hlt)
        rw [hrr] at this
        simpa using this)
      rw [hrr] at c0 c1 hw1 hw2 hms HMB HAPP
      have HMS := Lib.hid hms
      clear hrr hms
      have hl100 : r.ms.length ≤ 100 := HL100.out
      have y1 : (0 : Int) ≤ (k : Int) := by omega
      have y2 : (k : Int) < (rows.length : Int) := by omega
      have HBX := Lib.hid (box2 O 34 (.int .i64 r.c) (.slice orr r.ms.length cp))
      obtain ⟨W4, hW4⟩ : ∃ W4 : World, W4 = O.alloc (.cells #[.int .i64 r.c, .slice orr r.ms.length cp] 34) := ⟨_, rfl⟩
      have HW4 := Lib.hid hW4
      rw [← hW4] at HBX
      have hs4 : W4.heap.size = O.heap.size + 1 := by rw [hW4]; exact World.size_alloc ..
      clear hW4
      have HBt := Lib.hid (Blk.new W4 34 #[.int .i64 r.c, .slice none 0 0])
      have HBB := Lib.hid (below_alloc (Below.refl W4.heap.size W4) (.cells #[.int .i64 r.c, .slice none 0 0] 34))
      obtain ⟨Wi, hWi⟩ : ∃ Wi : World, Wi = W4.alloc (.cells #[.int .i64 r.c, .slice none 0 0] 34) := ⟨_, rfl⟩
      have HWi := Lib.hid hWi
      rw [← hWi] at HBt HBB
      have hsi : Wi.heap.size = O.heap.size + 2 := by rw [hWi, World.size_alloc, hs4]
      clear hWi
      rw [hs4] at HBt
      have HBO := Lib.hid (below_step HBX.out.1 HBB.out)
      have HBr := Lib.hid (cell_kept HBB.out HBX.out.2.2)
      go_wp2
      rw [← HW4.out]
      rw [← HWi.out]
      obtain ⟨Bk, hBk⟩ : ∃ Bk, O.heap.size = Bk := ⟨_, rfl⟩
      have HBK := Lib.hid hBk
      have HBr0 := Lib.hid HBr.out
      rw [hBk] at HBt HBr0 hsz hsi ⊢
      clear hBk HWi HW4 HBX HBB HBr hs4 c0 c1
      go_loopw [15] (MemRel Wi (Bk + 1) most.length r) (fun i _ => (intOf i + 1).toNat)
      case atStart => exact ⟨r.ms.length, _, Nat.le_refl _, by go_num, HBt.out, by rw [Nat.sub_self, List.drop_length]; exact World.ownsRow_nil .., Agr.refl _ _⟩
      case round =>
        obtain ⟨j, vs, hj, rfl, hbt, hin, hagr⟩ := hrel
        have HB := Lib.hid hbt
        have HIN := Lib.hid hin
        have HAG := Lib.hid hagr
        clear hbt hin hagr HBt
        have hsg := HAG.out.size
        obtain ⟨oi, ci, hvs, hnc⟩ := ownsRow_shape' HIN.out
        subst hvs
        by_cases hj0 : 0 < j
        · obtain ⟨J, rfl⟩ : ∃ J, j = J + 1 := ⟨j - 1, by omega⟩
          have hJl : J < r.ms.length := by omega
          rw [show (((J + 1 : Nat) : Int) - 1) = (J : Int) by omega]
          obtain ⟨gm, om2, hgm, m0⟩ := HMS.out J hJl
          subst hgm
          have hgmO := cell_lt m0
          simp only at hgmO
          have HMG := Lib.hid (show gm < Bk by have := HBK.out; omega)
          clear hgmO
          replace m0 := HAG.out.cell (cell_kept HBO.out m0) (by simp; have := HMG.out; omega)
          have hmb := HMB.out _ (getD_mem hJl)
          have HTD := Lib.hid (turnI_drop (n := most.length) hJl)
          obtain ⟨M, hM⟩ : ∃ M, r.ms.getD J 0 = M := ⟨_, rfl⟩
          rw [hM] at m0 hmb HTD
          clear hM
          obtain ⟨V, hV⟩ : ∃ V, (most.length : Int) - 1 - M = V := ⟨_, rfl⟩
          rw [hV] at HTD
          have ew1 : IntKind.i64.wrap ((most.length : Int) - 1) = (most.length : Int) - 1 := IntWalk.i64_in _ (by omega)
          have ew2 : IntKind.i64.wrap ((most.length : Int) - 1 - M) = V := by rw [hV]; exact IntWalk.i64_in _ (by omega)
          clear hV
          have y1 : (0 : Int) ≤ (J : Int) := by omega
          have y2 : (J : Int) < (r.ms.length : Int) := by omega
          have b1 : wr.cell? ⟨Bk + 1, 1, none⟩ = some (.slice oi (r.ms.length - (J + 1)) ci) := HB.out.cell 1
          have b2 : wr.cell? ⟨Bk, 1, none⟩ = some (.slice (some ⟨gm, om2, none⟩) r.ms.length cp) := HAG.out.cell HBr0.out (by simp)
          have HJ0 := Lib.hid (show wr.cell? ⟨Bk + 1, 1, none⟩ = some (.slice oi (r.ms.length - (J + 1)) ci) ∧ wr.cell? ⟨Bk, 1, none⟩ = some (.slice (some ⟨gm, om2, none⟩) r.ms.length cp) ∧ wr.cell? ⟨gm, om2 + J, none⟩ = some (.int .i64 M) from ⟨b1, b2, m0⟩)
          clear b1 b2 m0
          go_wp2_with fail

          refine wp_region_maskT [10, 11, 13] [true, true, true, true, true, true, true, true, true, true, false, false, true, false] (fun w'' => w''.cell? ⟨Bk + 1, 1, none⟩ = some (.slice oi (r.ms.length - (J + 1)) ci) ∧ w''.cell? ⟨Bk, 1, none⟩ = some (.slice (some ⟨gm, om2, none⟩) r.ms.length cp) ∧ w''.cell? ⟨gm, om2 + J, none⟩ = some (.int .i64 M)) mixed (by kernel_rfl) ?_
          intro KR hR
          have HR := Lib.hid hR
          clear hR
          simp only [marked]
          apply wpM_val rfl
          · (intro w' hw'; go_simp; with_reducible rfl)
          simp only [Act.put, List.setIfInBounds_toArray, List.set_cons_zero, List.set_cons_succ]
          apply wpM_val rfl
          · (intro w' hw'; obtain ⟨c0, c1, c2⟩ := hw'; go_simp; with_reducible rfl)
          simp only [Act.put, List.setIfInBounds_toArray, List.set_cons_zero, List.set_cons_succ]
          apply wpM_val rfl
          · (intro w' hw'; go_simp; with_reducible rfl)
          simp only [Act.put, List.setIfInBounds_toArray, List.set_cons_zero, List.set_cons_succ]
          apply wpM_val rfl
          · (intro w' hw'; go_simp; with_reducible rfl)
          simp only [Act.put, List.setIfInBounds_toArray, List.set_cons_zero, List.set_cons_succ]
          apply wpM_val rfl
          · (intro w' hw'; go_simp; with_reducible rfl)
          simp only [Act.put, List.setIfInBounds_toArray, List.set_cons_zero, List.set_cons_succ]
          apply wpM_val rfl
          · (intro w' hw'; obtain ⟨c0, c1, c2⟩ := hw'; go_simp; with_reducible rfl)
          simp only [Act.put, List.setIfInBounds_toArray, List.set_cons_zero, List.set_cons_succ]
          apply wpM_val rfl
          · (intro w' hw'; go_simp; with_reducible rfl)
          simp only [Act.put, List.setIfInBounds_toArray, List.set_cons_zero, List.set_cons_succ]
          apply wpM_val rfl
          · (intro w' hw'; go_simp; with_reducible rfl)
          simp only [Act.put, List.setIfInBounds_toArray, List.set_cons_zero, List.set_cons_succ]
          apply wpM_val rfl
          · (intro w' hw'; obtain ⟨c0, c1, c2⟩ := hw'; go_simp; with_reducible rfl)
          simp only [Act.put, List.setIfInBounds_toArray, List.set_cons_zero, List.set_cons_succ]
          apply wpM_val rfl
          · (intro w' hw'; go_simp; with_reducible rfl)
          simp only [Act.put, List.setIfInBounds_toArray, List.set_cons_zero, List.set_cons_succ]
          apply wpM_val rfl
          · (intro w' hw'; go_simp; with_reducible rfl)
          simp only [Act.put, List.setIfInBounds_toArray, List.set_cons_zero, List.set_cons_succ]
          refine wpM_nil (HR.out _ ?_)
          clear HR
          generalize hW8 : World.drew wr = W8
          have HJ8 := Lib.hid (show W8.cell? ⟨Bk + 1, 1, none⟩ = some (.slice oi (r.ms.length - (J + 1)) ci) ∧ W8.cell? ⟨Bk, 1, none⟩ = some (.slice (some ⟨gm, om2, none⟩) r.ms.length cp) ∧ W8.cell? ⟨gm, om2 + J, none⟩ = some (.int .i64 M) from by rw [← hW8]; exact HJ0.out)
          have HB8 := Lib.hid (show Blk W8 (Bk + 1) 34 #[.int .i64 r.c, .slice oi (r.ms.length - (J + 1)) ci] from by rw [← hW8]; exact HB.out)
          have HI8 := Lib.hid (show W8.ownsRow Wi.heap.size 3 1 (.slice oi (r.ms.length - (J + 1)) ci) (r.ms.length - (J + 1)) ((turnI most.length (r.ms.drop (J + 1))).reverse.map (Value.int .i64 ·)) from by rw [← hW8]; exact ownsRow_later HIN.out (Below.refl _ _).drew)
          have HA8 := Lib.hid (show Agr Wi W8 [Bk + 1] from by rw [← hW8]; exact HAG.out.later (Below.refl _ _).drew)
          clear hW8 HJ0 HB HIN HAG
          have hbase : Wi.heap.size ≤ W8.heap.size := HA8.out.size
          refine wpC_run rfl rfl HJ8.out (v := .slice (some ⟨W8.heap.size, 0, none⟩) 1 1) (w' := W8.alloc (.cells #[.int .i64 V] 3)) (by go_simp) ?_
          simp only [Act.put, List.setIfInBounds_toArray]
          have HJ9 := Lib.hid (show (W8.alloc (.cells #[.int .i64 V] 3)).cell? ⟨Bk + 1, 1, none⟩ = some (.slice oi (r.ms.length - (J + 1)) ci) ∧ (W8.alloc (.cells #[.int .i64 V] 3)).cell? ⟨Bk, 1, none⟩ = some (.slice (some ⟨gm, om2, none⟩) r.ms.length cp) ∧ (W8.alloc (.cells #[.int .i64 V] 3)).cell? ⟨gm, om2 + J, none⟩ = some (.int .i64 M) from ⟨cell_kept (below_alloc (Below.refl _ _) _) HJ8.out.1, cell_kept (below_alloc (Below.refl _ _) _) HJ8.out.2.1, cell_kept (below_alloc (Below.refl _ _) _) HJ8.out.2.2⟩)
          obtain ⟨v6, w6, hrun, hown6, hgr6⟩ := run_append1O (P := Try.prog) (tt := 23) (ty := 23) (news := [.int .i64 V]) elemI HI8.out hbase (by omega) (by decide) rfl (oneI _)
          refine wpC_append _ _ rfl rfl rfl HJ9.out hrun ?_
          simp only [Act.put]
          clear hrun
          have hown8 := HI8.out.lt
          have hne : ∀ b, b < Bk + 2 → some b ≠ (Value.slice oi (r.ms.length - (J + 1)) ci).ownBlock := fun b hb e => by
            have := (hown8 b e.symm).1
            omega
          have HJ10 := Lib.hid (show w6.cell? ⟨Bk + 1, 1, none⟩ = some (.slice oi (r.ms.length - (J + 1)) ci) ∧ w6.cell? ⟨Bk, 1, none⟩ = some (.slice (some ⟨gm, om2, none⟩) r.ms.length cp) ∧ w6.cell? ⟨gm, om2 + J, none⟩ = some (.int .i64 M) from
            ⟨(World.cell?_of_block (a := ⟨Bk + 1, 1, none⟩) (hgr6.block _ (cell_lt HJ9.out.1) (hne _ (by simp only; omega)))).trans HJ9.out.1, (World.cell?_of_block (a := ⟨Bk, 1, none⟩) (hgr6.block _ (cell_lt HJ9.out.2.1) (hne _ (by simp only; omega)))).trans HJ9.out.2.1, (World.cell?_of_block (a := ⟨gm, om2 + J, none⟩) (hgr6.block _ (cell_lt HJ9.out.2.2) (hne _ (by have := HMG.out; simp only; omega)))).trans HJ9.out.2.2⟩)
          have HB10 := Lib.hid (show Blk w6 (Bk + 1) 34 #[.int .i64 r.c, .slice oi (r.ms.length - (J + 1)) ci] from by
            have h1 := HB8.out.alloc (.cells #[.int .i64 V] 3)
            exact (hgr6.block _ h1.lt (hne _ (by omega))).trans h1)
          have HA10 := Lib.hid ((HA8.out.alloc (.cells #[.int .i64 V] 3)).grown hgr6 (fun b hb => (hown8 b hb).1))
          obtain ⟨o6, c6, hv6, _⟩ := ownsRow_shape' hown6
          subst hv6
          have HI11 := Lib.hid (ownsRow_cast (ownsRow_set (G := Bk + 1) (i := 1) (u := .slice o6 (r.ms.length - (J + 1) + 1) c6) hown6 (by omega)) (show r.ms.length - (J + 1) + 1 = r.ms.length - J by omega) (show _ = (turnI most.length (r.ms.drop J)).reverse.map (Value.int .i64 ·) from by rw [HTD.out, List.map_append]; rfl))
          have HB11 := Lib.hid (show Blk (w6.setCell ⟨Bk + 1, 1, none⟩ (.slice o6 (r.ms.length - (J + 1) + 1) c6)) (Bk + 1) 34 #[.int .i64 r.c, .slice o6 (r.ms.length - (J + 1) + 1) c6] from HB10.out.set 1 _)
          have HA11 := Lib.hid (HA10.out.set (g := Bk + 1) (i := 1) (u := .slice o6 (r.ms.length - (J + 1) + 1) c6) (by simp))
          clear hown6 hgr6 hown8 hne HJ8 HJ9 HB8 HI8 HA8 HA10
          have f0 := HB10.out.frozen 1
          have g0 := HJ10.out.1
          refine wpC_skip rfl rfl HJ10.out (w' := w6.setCell ⟨Bk + 1, 1, none⟩ (.slice o6 (r.ms.length - (J + 1) + 1) c6)) (by go_simp) ?_
          simp only [Act.put]
          clear f0 g0 HJ10 HB10
          refine wpC_nil ?_
          go_wp2
          go_roundw
          case rel => exact ⟨J, _, by omega, by go_num, HB11.out, HI11.out, HA11.out⟩
          case measure => simp [intOf]
        · obtain rfl : j = 0 := by omega
          rw [show (((0 : Nat) : Int) - 1) = -1 from rfl]
          have HIN2 := Lib.hid (show wr.ownsRow Wi.heap.size 3 1 (.slice oi r.ms.length ci) r.ms.length ((turnI most.length r.ms).reverse.map (Value.int .i64 ·)) from HIN.out)
          have HB2 := Lib.hid (show Blk wr (Bk + 1) 34 #[.int .i64 r.c, .slice oi r.ms.length ci] from HB.out)
          have hnc2 : r.ms.length ≤ ci := by omega
          clear HIN HB
          have HBO2 := Lib.hid (HAG.out.below HBO.out (fun b hb => by simp at hb; have := HBK.out; omega))
          have HR2 := Lib.hid (ownsRow_later HROW.out HBO2.out)
          have HIS := Lib.hid (ownsRow_intsS (S := (Value.slice ov k cv).ownBlock.toList) HIN2.out (by simp [turnI]) (fun b hb => by
            have h1 := (HROW.out.lt b (by simpa using hb)).2
            have := HBK.out
            omega))
          have HLE := Lib.hid (show (turnI most.length r.ms).reverse.length = r.ms.length by simp [turnI])
          have b0 : wr.cell? ⟨Bk + 1, 0, none⟩ = some (.int .i64 r.c) := HB2.out.cell 0
          have b1 : wr.cell? ⟨Bk + 1, 1, none⟩ = some (.slice oi r.ms.length ci) := HB2.out.cell 1
          have hbase2 : W.heap.size ≤ wr.heap.size := by omega
          go_wp2_with (at_builtin; refine wp_append1O (news := [.int .i64 r.c, .slice oi r.ms.length ci]) elemR HR2.out hbase2 (by omega) (by decide) rfl (fun u hu => by simp at hu; rcases hu with rfl | rfl <;> rfl) rfl _ _ rfl rfl rfl rfl ?_)
          intro v6 w6 hr6 hgr6 hat6
          clear b0 b1
          have HTA6 := Lib.hid (HAPP.out wr w6 v6 _ ⟨⟨r.c, (turnI most.length r.ms).reverse⟩, oi, ci⟩ HBO2.out rfl ⟨by simp only; rw [HLE.out]; exact hw1, by simp only; rw [HLE.out]; exact hnc2, HIS.out⟩ hgr6 hat6)
          have HB6 := Lib.hid (show Below W.heap.size W w6 from (below_alloc (below_step HBE.out HBO2.out) _).grown hgr6 (by rw [World.size_alloc]; omega) (fun kk e => (HR2.out.lt kk e).1))
          have HR6 := Lib.hid (show w6.ownsRow W.heap.size 34 2 v6 (k + 1) (flatW (TL ++ [⟨⟨r.c, (turnI most.length r.ms).reverse⟩, oi, ci⟩])) from by
            rw [flatW_snoc]
            unfold rwC
            simp only
            rw [HLE.out]
            exact hr6)
          clear hr6 hgr6 hat6 HIS HIN2 HB2
          go_wp2
          go_roundw
          case rel => exact ⟨k + 1, _, by omega, by go_num, HTA6.out, HR6.out, HB6.out⟩
          case measure => simp [intOf]; omega
    · obtain rfl : k = rows.length := by omega
      have HRWT := Lib.hid (show Rws O ov (rows.map (turnR most.length)) by rw [← HTA.out.map]; exact HTA.out.rws HROW.out)
      clear HTA HROW
      have hmk := run_make_row' (P := Try.prog) 23 3 (.int .i64 0) 8 Try.underlying23 (by kernel_rfl) rfl .i64 .i64 most.length (by omega) (by omega)
      go_upto_region 21 with (fail)
      go_cut [16, 17] (fun a b wx => ∃ gh ga, a = .slice (some ⟨gh, 0, none⟩) most.length most.length ∧ b = .slice (some ⟨ga, 0, none⟩) most.length most.length ∧ gh ≠ ga ∧ O.heap.size ≤ gh ∧ O.heap.size ≤ ga ∧ Blk wx gh 3 (intsC (List.replicate most.length 0)) ∧ Blk wx ga 3 (intsC (List.replicate most.length 0)) ∧ Below O.heap.size O wx)
      case first =>
        have HTWO := Lib.hid (show Blk ((O.alloc (.cells (madeCells #[.int .i64 0] most.length) 3)).alloc (.cells (madeCells #[.int .i64 0] most.length) 3)).drew O.heap.size 3 (intsC (List.replicate most.length 0)) ∧ Blk ((O.alloc (.cells (madeCells #[.int .i64 0] most.length) 3)).alloc (.cells (madeCells #[.int .i64 0] most.length) 3)).drew (O.heap.size + 1) 3 (intsC (List.replicate most.length 0)) ∧ Below O.heap.size O ((O.alloc (.cells (madeCells #[.int .i64 0] most.length) 3)).alloc (.cells (madeCells #[.int .i64 0] most.length) 3)).drew from by
          rw [made_ints]
          have h1 := Blk.new O 3 (intsC (List.replicate most.length 0))
          have h2 := Blk.new (O.alloc (.cells (intsC (List.replicate most.length 0)) 3)) 3 (intsC (List.replicate most.length 0))
          rw [World.size_alloc] at h2
          exact ⟨(h1.alloc _).drew, h2.drew, (below_alloc (below_alloc (Below.refl _ _) _) _).drew⟩)
        go_region
        all_goals (go_wp2_with fail; go_meet)
        · exact ⟨_, _, rfl, rfl, by omega, by omega, by omega, HTWO.out.1, HTWO.out.2.1, HTWO.out.2.2⟩
        · exact ⟨_, _, rfl, rfl, by omega, by omega, by omega, HTWO.out.2.1, HTWO.out.1, HTWO.out.2.2⟩
      case rest =>
        clear hmk
        obtain ⟨gh, ga, rfl, rfl, hgg, hgh, hga, hbh, hba, hbx⟩ := hcut
        have HBH := Lib.hid hbh
        have HBA := Lib.hid hba
        have HBX := Lib.hid hbx
        clear hbh hba hbx
        have hwO : w.heap.size ≤ O.heap.size := HBW.out.size
        go_wp2
        go_loopw [86] (BothRel wc gh ga most order most.length) (fun i _ => most.length - (intOf i).toNat)
        case atStart => exact ⟨0, Nat.zero_le _, rfl, by rw [hiL_zero]; exact HBH.out, by rw [afL_zero]; exact HBA.out, Agr.refl _ _⟩
        case round =>
          obtain ⟨i, hi, rfl, hbh, hba, hagr⟩ := hrel
          clear HBH HBA
          have HBH := Lib.hid hbh
          have HBA := Lib.hid hba
          have HAG := Lib.hid hagr
          clear hbh hba hagr
          have HBO2 := Lib.hid (HAG.out.below HBX.out (fun b hb => by simp at hb; rcases hb with rfl | rfl <;> assumption))
          have HB2 := Lib.hid (below_step HBW.out HBO2.out)
          by_cases hlt : i < most.length
          · have hlo : i < order.length := by have := HOLN.out; omega
            obtain ⟨gm, om2, hgm, c0⟩ := H_most.out i hlt
            obtain ⟨gn, on2, hgn, d0⟩ := H_order.out i hlo
            subst hgm hgn
            have h1 := cell_lt c0
            have h2 := cell_lt d0
            simp only at h1 h2
            replace c0 := cell_kept HB2.out c0
            replace d0 := cell_kept HB2.out d0
            have hnb := HOL.out.2.1 _ (getD_mem hlo)
            obtain ⟨q, hq⟩ : ∃ q : Nat, q = most.length - 1 - i := ⟨_, rfl⟩
            have HHS := Lib.hid (hiL_set most hlt hq)
            have HAS := Lib.hid (afL_set order (n := most.length) (i := i))
            obtain ⟨M, hM⟩ : ∃ M, most.getD i 0 = M := ⟨_, rfl⟩
            obtain ⟨N, hN⟩ : ∃ N, order.getD i 0 = N := ⟨_, rfl⟩
            rw [hM] at c0 HHS
            rw [hN] at d0 hnb HAS
            clear hM hN
            obtain ⟨V, hV⟩ : ∃ V, (most.length : Int) - 1 - N = V := ⟨_, rfl⟩
            rw [hV] at HAS
            have ew1 : IntKind.i64.wrap ((most.length : Int) - 1) = (most.length : Int) - 1 := IntWalk.i64_in _ (by omega)
            have ew2 : IntKind.i64.wrap ((most.length : Int) - 1 - (i : Int)) = (q : Int) := by rw [IntWalk.i64_in _ (by omega)]; omega
            have ew3 : IntKind.i64.wrap ((most.length : Int) - 1 - N) = V := by rw [hV]; exact IntWalk.i64_in _ (by omega)
            clear hV
            have y1 : (0 : Int) ≤ (i : Int) := by omega
            have y2 : (i : Int) < (most.length : Int) := by omega
            have y3 : (0 : Int) ≤ (q : Int) := by omega
            have y4 : (q : Int) < (most.length : Int) := by omega
            have y5 : (i : Int) < (order.length : Int) := by omega
            clear hq
            have HJ0 := Lib.hid (show wr.cell? ⟨gm, om2 + i, none⟩ = some (.int .i64 M) ∧ wr.cell? ⟨gn, on2 + i, none⟩ = some (.int .i64 N) from ⟨c0, d0⟩)
            clear c0 d0
            go_wp2_with fail

            refine wp_region_maskT [19, 21] [true, true, true, true, true, true, true, true, true, true, true, true, true, true, true, true, true, true, true, false, true, false] (fun w'' => w''.cell? ⟨gm, om2 + i, none⟩ = some (.int .i64 M) ∧ w''.cell? ⟨gn, on2 + i, none⟩ = some (.int .i64 N)) mixed (by kernel_rfl) ?_
            intro KR hR
            have HR := Lib.hid hR
            clear hR
            simp only [marked]
            apply wpM_val rfl
            · (intro w' hw'; go_simp; with_reducible rfl)
            simp only [Act.put, List.setIfInBounds_toArray, List.set_cons_zero, List.set_cons_succ]
            apply wpM_val rfl
            · (intro w' hw'; go_simp; with_reducible rfl)
            simp only [Act.put, List.setIfInBounds_toArray, List.set_cons_zero, List.set_cons_succ]
            apply wpM_val rfl
            · (intro w' hw'; go_simp; with_reducible rfl)
            simp only [Act.put, List.setIfInBounds_toArray, List.set_cons_zero, List.set_cons_succ]
            apply wpM_val rfl
            · (intro w' hw'; go_simp; with_reducible rfl)
            simp only [Act.put, List.setIfInBounds_toArray, List.set_cons_zero, List.set_cons_succ]
            apply wpM_val rfl
            · (intro w' hw'; go_simp; with_reducible rfl)
            simp only [Act.put, List.setIfInBounds_toArray, List.set_cons_zero, List.set_cons_succ]
            apply wpM_val rfl
            · (intro w' hw'; go_simp; with_reducible rfl)
            simp only [Act.put, List.setIfInBounds_toArray, List.set_cons_zero, List.set_cons_succ]
            apply wpM_val rfl
            · (intro w' hw'; go_simp; with_reducible rfl)
            simp only [Act.put, List.setIfInBounds_toArray, List.set_cons_zero, List.set_cons_succ]
            apply wpM_val rfl
            · (intro w' hw'; go_simp; with_reducible rfl)
            simp only [Act.put, List.setIfInBounds_toArray, List.set_cons_zero, List.set_cons_succ]
            apply wpM_val rfl
            · (intro w' hw'; go_simp; with_reducible rfl)
            simp only [Act.put, List.setIfInBounds_toArray, List.set_cons_zero, List.set_cons_succ]
            apply wpM_val rfl
            · (intro w' hw'; go_simp; with_reducible rfl)
            simp only [Act.put, List.setIfInBounds_toArray, List.set_cons_zero, List.set_cons_succ]
            apply wpM_val rfl
            · (intro w' hw'; obtain ⟨c0, c1⟩ := hw'; go_simp; with_reducible rfl)
            simp only [Act.put, List.setIfInBounds_toArray, List.set_cons_zero, List.set_cons_succ]
            apply wpM_val rfl
            · (intro w' hw'; go_simp; with_reducible rfl)
            simp only [Act.put, List.setIfInBounds_toArray, List.set_cons_zero, List.set_cons_succ]
            apply wpM_val rfl
            · (intro w' hw'; go_simp; with_reducible rfl)
            simp only [Act.put, List.setIfInBounds_toArray, List.set_cons_zero, List.set_cons_succ]
            apply wpM_val rfl
            · (intro w' hw'; go_simp; with_reducible rfl)
            simp only [Act.put, List.setIfInBounds_toArray, List.set_cons_zero, List.set_cons_succ]
            apply wpM_val rfl
            · (intro w' hw'; go_simp; with_reducible rfl)
            simp only [Act.put, List.setIfInBounds_toArray, List.set_cons_zero, List.set_cons_succ]
            apply wpM_val rfl
            · (intro w' hw'; go_simp; with_reducible rfl)
            simp only [Act.put, List.setIfInBounds_toArray, List.set_cons_zero, List.set_cons_succ]
            apply wpM_val rfl
            · (intro w' hw'; obtain ⟨c0, c1⟩ := hw'; go_simp; with_reducible rfl)
            simp only [Act.put, List.setIfInBounds_toArray, List.set_cons_zero, List.set_cons_succ]
            apply wpM_val rfl
            · (intro w' hw'; go_simp; with_reducible rfl)
            simp only [Act.put, List.setIfInBounds_toArray, List.set_cons_zero, List.set_cons_succ]
            apply wpM_val rfl
            · (intro w' hw'; go_simp; with_reducible rfl)
            simp only [Act.put, List.setIfInBounds_toArray, List.set_cons_zero, List.set_cons_succ]
            apply wpM_val rfl
            · (intro w' hw'; go_simp; with_reducible rfl)
            simp only [Act.put, List.setIfInBounds_toArray, List.set_cons_zero, List.set_cons_succ]
            refine wpM_nil (HR.out _ ?_)
            clear HR
            generalize hW8 : World.drew wr = W8
            have HJ8 := Lib.hid (show W8.cell? ⟨gm, om2 + i, none⟩ = some (.int .i64 M) ∧ W8.cell? ⟨gn, on2 + i, none⟩ = some (.int .i64 N) from by rw [← hW8]; exact HJ0.out)
            have HH8 := Lib.hid (show Blk W8 gh 3 (intsC (hiL most most.length i)) from by rw [← hW8]; exact HBH.out)
            have HF8 := Lib.hid (show Blk W8 ga 3 (intsC (afL order most.length i)) from by rw [← hW8]; exact HBA.out)
            have HA8 := Lib.hid (show Agr wc W8 [gh, ga] from by rw [← hW8]; exact HAG.out.later (Below.refl _ _).drew)
            clear hW8 HJ0 HBH HBA HAG HBO2 HB2
            have f0 := HH8.out.frozen q
            have g0 : W8.cell? ⟨gh, q, none⟩ = some (.int .i64 ((hiL most most.length i).getD q 0)) := (HH8.out.cell q).trans (intsC_get (by rw [hiL_len]; omega))
            refine wpC_skip rfl rfl HJ8.out (w' := W8.setCell ⟨gh, q, none⟩ (.int .i64 M)) (by go_simp) ?_
            simp only [Act.put]
            clear f0 g0
            obtain ⟨W9, hW9⟩ : ∃ W9 : World, W9 = W8.setCell ⟨gh, q, none⟩ (.int .i64 M) := ⟨_, rfl⟩
            have HJ9 := Lib.hid (show W9.cell? ⟨gm, om2 + i, none⟩ = some (.int .i64 M) ∧ W9.cell? ⟨gn, on2 + i, none⟩ = some (.int .i64 N) from by
              rw [hW9]
              exact ⟨(World.cell?_of_block (a := ⟨gm, om2 + i, none⟩) (Below.heap_setCell W8 ⟨gh, q, none⟩ _ gm (by simp only; omega))).trans HJ8.out.1, (World.cell?_of_block (a := ⟨gn, on2 + i, none⟩) (Below.heap_setCell W8 ⟨gh, q, none⟩ _ gn (by simp only; omega))).trans HJ8.out.2⟩)
            have HH9 := Lib.hid (show Blk W9 gh 3 (intsC (hiL most most.length (i + 1))) from by rw [hW9, ← HHS.out, ← intsC_set]; exact HH8.out.set q _)
            have HF9 := Lib.hid (show Blk W9 ga 3 (intsC (afL order most.length i)) from by rw [hW9]; exact HF8.out.other (by simp only; omega) _)
            have HA9 := Lib.hid (show Agr wc W9 [gh, ga] from by rw [hW9]; exact HA8.out.set (by simp))
            rw [← hW9]
            clear hW9 HJ8 HH8 HF8 HA8
            have f0 := HF9.out.frozen i
            have g0 : W9.cell? ⟨ga, i, none⟩ = some (.int .i64 ((afL order most.length i).getD i 0)) := (HF9.out.cell i).trans (intsC_get (by rw [afL_len]; omega))
            refine wpC_skip rfl rfl HJ9.out (w' := W9.setCell ⟨ga, i, none⟩ (.int .i64 V)) (by go_simp) ?_
            simp only [Act.put]
            clear f0 g0
            have HH10 := Lib.hid (show Blk (W9.setCell ⟨ga, i, none⟩ (.int .i64 V)) gh 3 (intsC (hiL most most.length (i + 1))) from HH9.out.other (by simp only; omega) _)
            have HF10 := Lib.hid (show Blk (W9.setCell ⟨ga, i, none⟩ (.int .i64 V)) ga 3 (intsC (afL order most.length (i + 1))) from by rw [← HAS.out, ← intsC_set]; exact HF9.out.set i _)
            have HA10 := Lib.hid (show Agr wc (W9.setCell ⟨ga, i, none⟩ (.int .i64 V)) [gh, ga] from HA9.out.set (by simp))
            clear HJ9 HH9 HF9 HA9 HHS HAS
            refine wpC_nil ?_
            go_wp2
            go_roundw
            case rel => exact ⟨i + 1, by omega, by go_num, HH10.out, HF10.out, HA10.out⟩
            case measure => simp [intOf]; omega
          · obtain rfl : i = most.length := by omega
            have HHI := Lib.hid (show Ints wr (some ⟨gh, 0, none⟩) most.reverse from by rw [← hiL_end]; exact HBH.out.ints)
            have HAF := Lib.hid (show Ints wr (some ⟨ga, 0, none⟩) (turnI most.length order) from by rw [← afL_end HOLN.out]; exact HBA.out.ints)
            have HRT := Lib.hid (HRWT.out.later HBO2.out)
            have HX2 := Lib.hid (HX.out.later (below_step HBE.out HBO2.out))
            have HVO := Lib.hid (show (validLim (rows.map (turnR most.length)) most.reverse && isOrd (turnI most.length order) (most.reverse.length : Nat)) = true by rw [Bool.and_eq_true]; exact ⟨validLim_iff.2 HVT.out, HOT.out⟩)
            clear HBH HBA HAG HBO2 HX HRWT
            go_wp2_with fail
            refine (share_ok ov (some ⟨gh, 0, none⟩) (some ⟨ga, 0, none⟩) cv most.length most.length rows.length most.length most.length (rows.map (turnR most.length)) most.reverse (turnI most.length order) wr HRT.out HHI.out HAF.out (by simp; omega) (by simp; omega) (by simp [turnI]; omega) (by simp) (by simp) (by simp [turnI]; exact HOLN.out) HVO.out HTURN.out).mono ?_
            rintro e x4 ⟨hb, gy, hgy, rfl, hy⟩
            have HB4 := Lib.hid (below_step HB2.out hb)
            have HX4 := Lib.hid (HX2.out.later hb)
            have HY4 := Lib.hid hy
            clear hb hy hgy HB2 HX2 HRT HHI HAF HVO HTURN
            go_wp2
            go_loopw [127] (fun iv wr => ∃ i : Nat, i ≤ most.length ∧ iv = .int .i64 i ∧ Below x4.heap.size x4 wr) (fun i _ => most.length - (intOf i).toNat)
            case atStart => exact ⟨0, Nat.zero_le _, rfl, Below.refl _ _⟩
            case round =>
              obtain ⟨i, hi, rfl, hb⟩ := hrel
              have HB := Lib.hid hb
              clear hb
              by_cases hlt : i < most.length
              · obtain ⟨q, hq⟩ : ∃ q : Nat, q = most.length - 1 - i := ⟨_, rfl⟩
                obtain ⟨g1, o1, h1, c0⟩ := (HX4.out.later HB.out) i (by rw [HLX.out]; exact hlt)
                obtain ⟨g2, o2, h2, d0⟩ := (HY4.out.later HB.out) q (by rw [List.length_reverse, HLX.out]; omega)
                obtain ⟨rfl, rfl⟩ := cells_eq rfl h1
                obtain ⟨rfl, rfl⟩ := cells_eq rfl h2
                have e : X.reverse.getD q 0 = X.getD i 0 := by
                  rw [List.getD_eq_getElem?_getD, List.getD_eq_getElem?_getD, List.getElem?_reverse (by rw [HLX.out]; omega), HLX.out, show most.length - 1 - q = i by omega]
                rw [Nat.zero_add] at c0 d0
                rw [e] at d0
                clear e h1 h2
                obtain ⟨xi, hxi⟩ : ∃ xi, X.getD i 0 = xi := ⟨_, rfl⟩
                rw [hxi] at c0 d0
                clear hxi
                have ew1 : IntKind.i64.wrap ((most.length : Int) - 1) = (most.length : Int) - 1 := IntWalk.i64_in _ (by omega)
                have ew2 : IntKind.i64.wrap ((most.length : Int) - 1 - (i : Int)) = (q : Int) := by rw [IntWalk.i64_in _ (by omega)]; omega
                have y1 : (0 : Int) ≤ (i : Int) := by omega
                have y2 : (i : Int) < (most.length : Int) := by omega
                have y3 : (0 : Int) ≤ (q : Int) := by omega
                have y4 : (q : Int) < (most.length : Int) := by omega
                clear hq
                go_wp2_with fail
                go_quiet (fail)
                go_wp2
                go_roundw
                case rel => exact ⟨i + 1, by omega, by go_num, below_drewN HB.out _⟩
                case measure => simp [intOf]; omega
              · obtain rfl : i = most.length := by omega
                go_wp2
                go_ret
                exact ⟨rfl, below_step HB4.out HB.out⟩
end Go.Proofs.Ytjaeekikddbbeaa
