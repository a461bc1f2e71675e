/- Chapter 22: FairRoom. -/
import Derived.Test.YtjaeekikddbbeaaWo22
import Derived.Test.YtjaeekikddbbeaaRow22
namespace Go.Proofs.Ytjaeekikddbbeaa
open Go.RowKit
attribute [local go_sem] Oper.semAt_some

theorem elemR : ElemI Try.prog 22 34 2 32 := ElemI.of Try.underlying22 (by kernel_rfl) (by decide)
@[reducible] def rwC (a : RwA) : List Value := [.int .i64 a.r.c, .slice a.o a.r.ms.length a.cap]
def flatW (l : List RwA) : List Value := l.flatMap rwC
theorem flatW_snoc (l : List RwA) (a : RwA) : flatW (l ++ [a]) = flatW l ++ rwC a := by simp [flatW]
theorem flatW_get : ∀ (l : List RwA) (i : Nat), i < l.length → (flatW l)[i * 2]? = some (.int .i64 (l.getD i ⟨Rw.zero, none, 0⟩).r.c) ∧ (flatW l)[i * 2 + 1]? = some (.slice (l.getD i ⟨Rw.zero, none, 0⟩).o (l.getD i ⟨Rw.zero, none, 0⟩).r.ms.length (l.getD i ⟨Rw.zero, none, 0⟩).cap)
  | [], i, h => by simp at h
  | a :: as', 0, _ => by simp [flatW, rwC]
  | a :: as', i + 1, h => by
    have ih := flatW_get as' i (by simpa using h)
    have e : flatW (a :: as') = rwC a ++ flatW as' := by simp [flatW]
    rw [e]
    refine ⟨?_, ?_⟩
    · rw [List.getElem?_append_right (by simp; omega), show (i + 1) * 2 - (rwC a).length = i * 2 by simp; omega, ih.1]
      simp
    · rw [List.getElem?_append_right (by simp; omega), show (i + 1) * 2 + 1 - (rwC a).length = i * 2 + 1 by simp; omega, ih.2]
      simp
theorem rwC_one (a : RwA) : ∀ u ∈ rwC a, u.oneCell' = true := fun u hu => by simp at hu; rcases hu with rfl | rfl <;> rfl
/-- The wider rows so far. -/
structure WideAt (rows : List Rw) (w : World) (k : Nat) (WL : List RwA) : Prop where
  len : WL.length = k
  ms : ∀ i, i < k → (WL.getD i ⟨Rw.zero, none, 0⟩).r.ms = (getW rows i).ms
  cap : ∀ i, i < k → (getW rows i).c ≤ (WL.getD i ⟨Rw.zero, none, 0⟩).r.c ∧ (WL.getD i ⟨Rw.zero, none, 0⟩).r.c ≤ 1000000
  good : ∀ a ∈ WL, a.r.ms.length ≤ 9000000000000000000 ∧ a.r.ms.length ≤ a.cap ∧ Ints w a.o a.r.ms
theorem WideAt.app {rows : List Rw} {w : World} {k : Nat} {WL : List RwA} {a : RwA} (h : WideAt rows w k WL) (h1 : a.r.ms = (getW rows k).ms) (h2 : (getW rows k).c ≤ a.r.c ∧ a.r.c ≤ 1000000) (h3 : a.r.ms.length ≤ 9000000000000000000 ∧ a.r.ms.length ≤ a.cap ∧ Ints w a.o a.r.ms) : WideAt rows w (k + 1) (WL ++ [a]) := by
  have hget : ∀ i, i < k + 1 → (WL ++ [a]).getD i ⟨Rw.zero, none, 0⟩ = if i < k then WL.getD i ⟨Rw.zero, none, 0⟩ else a := fun i hi => by
    rw [List.getD_eq_getElem?_getD, List.getD_eq_getElem?_getD]
    by_cases hik : i < k
    · rw [if_pos hik, List.getElem?_append_left (by rw [h.len]; exact hik)]
    · rw [if_neg hik, List.getElem?_append_right (by rw [h.len]; omega), h.len, show i - k = 0 by omega]
      rfl
  refine ⟨by simp [h.len], fun i hi => ?_, fun i hi => ?_, fun b hb => ?_⟩
  · rw [hget i hi]
    split
    · exact h.ms i (by assumption)
    · rw [h1, show i = k by omega]
  · rw [hget i hi]
    split
    · exact h.cap i (by assumption)
    · rw [show i = k by omega]; exact h2
  · rcases List.mem_append.1 hb with hb | hb
    · exact h.good b hb
    · simp at hb; subst hb; exact h3
theorem WideAt.rws {rows : List Rw} {w wr : World} {base k : Nat} {WL : List RwA} {oo : Option Addr} {cap : Nat} (h : WideAt rows w k WL) (hb : Below w.heap.size w wr) (hr : wr.ownsRow base 34 2 (.slice oo k cap) k (flatW WL)) : Rws wr oo (WL.map (·.r)) := fun i hi => by
  have hi' : i < WL.length := by simpa using hi
  obtain ⟨h1, h2⟩ := flatW_get WL i hi'
  rcases hr.2 with ⟨_, hk⟩ | ⟨g, cap', cur, hv, _⟩
  · rw [h.len] at hi'; omega
  · injection hv with e1 e2 e3
    subst e1 e3
    have c0 := (hr.cellAt (i * 2) (by rw [h.len] at hi'; omega)).trans h1
    have c1 := (hr.cellAt (i * 2 + 1) (by rw [h.len] at hi'; omega)).trans h2
    have hmem : WL.getD i ⟨Rw.zero, none, 0⟩ ∈ WL := by
      rw [List.getD_eq_getElem?_getD, List.getElem?_eq_getElem hi']
      exact List.getElem_mem hi'
    obtain ⟨g1, g2, g3⟩ := h.good _ hmem
    have e : getW (WL.map (·.r)) i = (WL.getD i ⟨Rw.zero, none, 0⟩).r := by simp [getW, hi']
    refine ⟨g, 0, rfl, ?_⟩
    rw [e, Nat.zero_add]
    exact ⟨_, _, g1, g2, g3.later hb, c0, c1⟩
theorem run_append1O {P : Program} {base : Nat} {wr : World} {tt ty e : TypeId} {size bytes : Nat} {v : Value} {n : Nat} {xs news : List Value} (hI : ElemI P tt e size bytes) (hG : wr.ownsRow base e size v n xs) (hbase : base ≤ wr.heap.size) (hn : n + 1 ≤ 1000000000) (hb : bytes ≤ 100000) (hlen : news.length = size) (h1 : ∀ u ∈ news, u.oneCell' = true) :
    ∃ v' w', (Builtin.append_ #[tt, tt] ty #[v, .slice (some ⟨wr.heap.size, 0, none⟩) 1 1]).run P (wr.alloc (.cells news.toArray e)) = .ok v' w' ∧ w'.ownsRow base e size v' (n + 1) (xs ++ news) ∧ (wr.alloc (.cells news.toArray e)).grownBy w' v.ownBlock := by
  obtain ⟨i, z, hi, hz, h2, h3, h4⟩ := hI.info
  obtain ⟨v', w', hr, hown, hgrow, _, hat⟩ := run_append_own_at (P := P) (wr.alloc (.cells news.toArray e)) base tt ty e i z size bytes hI.under hi hz h2 h3 h4 hI.pos v n xs (hG.alloc _) ⟨wr.heap.size, 0, none⟩ 1 1 news (by rw [hlen, Nat.one_mul]) (by
    intro j u hj
    have := (Blk.new wr e news.toArray).cell j
    rw [Addr.add_lit, Nat.zero_add]
    exact this.trans (by simpa using hj)) h1 (by simp only [maxLen]; omega) (by have := Nat.mul_le_mul hn hb; omega) (by
    rw [World.size_alloc]
    omega)
  exact ⟨v', w', hr, hown, hgrow⟩
theorem Agr.grown {W wr w' : World} {S : List Nat} {row : Option Nat} (h : Agr W wr S) (hg : wr.grownBy w' row) (hr : ∀ b, row = some b → W.heap.size ≤ b) : Agr W w' S :=
  ⟨hg.os.trans h.os, hg.tape.trans h.tape, hg.output.trans h.output, Nat.le_trans h.size hg.size, fun b hb hS => (hg.block b (Nat.lt_of_lt_of_le hb h.size) (fun e => by have := hr b e.symm; omega)).trans (h.block b hb hS)⟩
theorem ownsRow_agr {W wr : World} {S : List Nat} {base : Nat} {e : TypeId} {size : Nat} {v : Value} {n : Nat} {xs : List Value} (h : W.ownsRow base e size v n xs) (ha : Agr W wr S) (hS : ∀ b ∈ S, b < base) : wr.ownsRow base e size v n xs := by
  refine ⟨h.1, ?_⟩
  rcases h.2 with h1 | ⟨g1, cap1, cur1, hv1, hg1, hk1, hrest⟩
  · exact .inl h1
  · have hlt1 : g1 < W.heap.size := (Array.getElem?_eq_some_iff.1 hk1).1
    exact .inr ⟨g1, cap1, cur1, hv1, hg1, (ha.block g1 hlt1 (fun hb => by have := hS g1 hb; omega)).trans hk1, hrest⟩
theorem ownsRow_ints {W : World} {base : Nat} {e : TypeId} {o : Option Addr} {n cap : Nat} {l : List Int} (h : W.ownsRow base e 1 (.slice o n cap) n (l.map (Value.int .i64 ·))) (hn : l.length = n) : Ints W o l := fun i hi => by
  rcases h.2 with ⟨_, hk⟩ | ⟨g, cap', cur, hv, _⟩
  · omega
  · injection hv with e1 e2 e3
    subst e1 e3
    have c0 := h.cellAt i (by omega)
    refine ⟨g, 0, rfl, ?_⟩
    rw [Nat.zero_add, c0]
    simp [hi]
/-- The wider rows are valid, and each has at least the old cap. -/
theorem wide_vl {rows : List Rw} {w : World} {WL : List RwA} {most high : List Int} (h : WideAt rows w rows.length WL) (hv : VL rows most) (hl : high.length = most.length) (hh : ∀ m ∈ high, 0 ≤ m ∧ m ≤ 1000) : VL (WL.map (·.r)) high ∧ ∀ r' ∈ WL.map (·.r), ∃ r ∈ rows, r.ms = r'.ms ∧ r.c ≤ r'.c := by
  have hmem : ∀ r' ∈ WL.map (·.r), ∃ r ∈ rows, r.ms = r'.ms ∧ r.c ≤ r'.c ∧ r'.c ≤ 1000000 := fun r' hr' => by
    obtain ⟨a, ha, rfl⟩ := List.mem_map.1 hr'
    obtain ⟨i, hi⟩ := List.getElem?_of_mem ha
    have hlt : i < rows.length := by rw [← h.len]; exact (List.getElem?_eq_some_iff.1 hi).1
    have e : WL.getD i ⟨Rw.zero, none, 0⟩ = a := by simp [hi]
    have h1 := h.ms i hlt
    have h2 := h.cap i hlt
    rw [e] at h1 h2
    exact ⟨getW rows i, getW_in hlt, h1.symm, h2.1, h2.2⟩
  refine ⟨⟨by rw [hl]; exact hv.n64, by rw [List.length_map, h.len]; exact hv.r64, fun r' hr' => ?_, hh⟩, fun r' hr' => ?_⟩
  · obtain ⟨r, hr, h1, h2, h3⟩ := hmem r' hr'
    have h4 := hv.row r hr
    rw [h1] at h4
    rw [hl]
    exact ⟨by omega, h4.2⟩
  · obtain ⟨r, hr, h1, h2, _⟩ := hmem r' hr'
    exact ⟨r, hr, h1, h2⟩

/-- The loop over the rows. -/
def WideRel (W w : World) (AT : Nat) (rows : List Rw) (v i : Value) (wr : World) : Prop :=
  ∃ (k t : Nat) (WL : List RwA), k ≤ rows.length ∧ i = .int .i64 k ∧ t ≤ k ∧ WideAt rows w k WL ∧ wr.ownsRow W.heap.size 34 2 v k (flatW WL) ∧ Blk wr AT 3 #[.int .i64 (t : Nat)] ∧ Agr W wr [AT]
/-- The loop over the limits. -/
def HighRel (W : World) (AT T : Nat) (most : List Int) (v i : Value) (wr : World) : Prop :=
  ∃ (k t : Nat) (HL : List Int), k ≤ most.length ∧ i = .int .i64 k ∧ t ≤ T + k ∧ HL.length = k ∧ (∀ i, i < k → most.getD i 0 ≤ HL.getD i 0 ∧ HL.getD i 0 ≤ 1000) ∧ wr.ownsRow W.heap.size 3 1 v k (HL.map (Value.int .i64 ·)) ∧ Blk wr AT 3 #[.int .i64 (t : Nat)] ∧ Agr W wr [AT]

set_option maxRecDepth 100000 in
set_option maxHeartbeats 16000000 in
theorem room_walk (oa : Option Addr) (ca : Nat) (rows : List Rw) (om : Option Addr) (cm : Nat) (most : List Int) (oo : Option Addr) (co : Nat) (order : List Int) (oz : Option Addr) (cz : Nat) (more : List Int) (w : World) (hr : Rws w oa rows) (hl : rows.length ≤ 9000000000000000000) (h_most : Ints w om most) (h_order : Ints w oo order) (h_more : Ints w oz more) :
    Calls Try.prog 7 #[.slice oa rows.length ca, .slice om most.length cm, .slice oo order.length co, .slice oz more.length cz] w (Ret (.bool true) w) := by
  have HRW := Lib.hid hr
  have H_most := Lib.hid h_most
  have H_order := Lib.hid h_order
  have H_more := Lib.hid h_more
  clear hr h_most h_order h_more
  go_enter Try.func7, Try.ntmps7
  go_wp2_with fail
  have HW0 := Lib.hid (below_alloc (Below.refl w.heap.size w) (.cells #[.slice oz more.length cz] 23))
  have HAM0 := Lib.hid (show (w.alloc (.cells #[.slice oz more.length cz] 23)).cell? ⟨w.heap.size, 0, none⟩ = some (.slice oz more.length cz) from (Blk.new w 23 #[.slice oz more.length cz]).cell 0)
  refine (head_any _).mono ?_
  rintro e x1 ⟨rfl, hb⟩
  have HW := Lib.hid (below_step HW0.out hb)
  have HAM := Lib.hid (cell_kept hb HAM0.out)
  clear hb HW0 HAM0
  have hamw : w.heap.size ≤ w.heap.size := Nat.le_refl _
  obtain ⟨AM, hAM⟩ : ∃ AM, w.heap.size = AM := ⟨_, rfl⟩
  have HAME := Lib.hid hAM
  rw [hAM] at HAM ⊢
  clear hAM hamw
  have HALL := Lib.hid (below_alloc (Below.refl x1.heap.size x1) (.cells #[.slice om most.length cm, .slice oo order.length co, .slice oz more.length cz] 23))
  have HLS := Lib.hid (show Lens (x1.alloc (.cells #[.slice om most.length cm, .slice oo order.length co, .slice oz more.length cz] 23)) (some ⟨x1.heap.size, 0, none⟩) [most.length, order.length, more.length] from lit_lens x1 23 [(om, most.length, cm), (oo, order.length, co), (oz, more.length, cz)])
  have m0 := HAM.out
  replace HW := Lib.hid (below_step HW.out HALL.out)
  go_wp2_with fail
  clear m0
  refine (small_any oa (some ⟨x1.heap.size, 0, none⟩) ca 3 rows [most.length, order.length, more.length] _ (HRW.out.later HW.out) hl HLS.out (by simp)).mono ?_
  rintro e x2 ⟨rfl, hb⟩
  replace HW := Lib.hid (below_step HW.out hb)
  replace HAM := Lib.hid (cell_kept hb (cell_kept HALL.out HAM.out))
  clear hb HLS HALL
  obtain ⟨F, hF⟩ : ∃ F, smallB rows [most.length, order.length, more.length] = F := ⟨_, rfl⟩
  have HF := Lib.hid hF
  rw [hF]
  clear hF
  cases F with
  | false =>
    go_wp2
    go_ret
    exact ⟨rfl, HW.out⟩
  | true =>
  have HSM := Lib.hid (show (∀ n ∈ [most.length, order.length, more.length], n ≤ 100) ∧ fewR rows = true by have := HF.out; unfold smallB at this; rw [Bool.and_eq_true, lensOk_iff] at this; exact this)
  have hl_most : most.length ≤ 100 := HSM.out.1 _ (by simp)
  have hl_order : order.length ≤ 100 := HSM.out.1 _ (by simp)
  have hl_more : more.length ≤ 100 := HSM.out.1 _ (by simp)
  clear HF
  go_wp2_with fail
  refine (Share_any oa om oo ca cm co rows most order _ (HRW.out.later HW.out) (H_most.out.later HW.out) (H_order.out.later HW.out) hl (by omega) (by omega)).mono ?_
  rintro e x3 ⟨hb, ⟨hv, gx, hgx, rfl, hx⟩ | ⟨hv, rfl⟩⟩
  rotate_left
  · replace HW := Lib.hid (below_step HW.out hb)
    clear hb hv
    go_wp2
    go_ret
    exact ⟨rfl, HW.out⟩
  replace HW := Lib.hid (below_step HW.out hb)
  replace HAM := Lib.hid (cell_kept hb HAM.out)
  have HX := Lib.hid hx
  have HV := Lib.hid (show VL rows most ∧ isOrd order (most.length : Nat) = true by rw [Bool.and_eq_true] at hv; exact ⟨validLim_iff.1 hv.1, hv.2⟩)
  clear hb hx hv hgx
  have hr64 := HV.out.1.r64
  have hn64 := HV.out.1.n64
  have HLX := Lib.hid (share_fit HV.out.1 HV.out.2).len
  go_wp2
  have HW3 := Lib.hid (below_alloc (Below.refl x3.heap.size x3) (.cells #[.int .i64 0] 3))
  have HAT := Lib.hid (Blk.new x3 3 #[.int .i64 0])
  obtain ⟨W, hWe⟩ : ∃ W : World, W = x3.alloc (.cells #[.int .i64 0] 3) := ⟨_, rfl⟩
  have hWs : W.heap.size = x3.heap.size + 1 := by rw [hWe]; exact World.size_alloc ..
  rw [← hWe] at HW3 HAT ⊢
  clear hWe
  have hamlt : AM < x3.heap.size := cell_lt HAM.out
  replace HAM := Lib.hid (cell_kept HW3.out HAM.out)
  replace HX := Lib.hid (show IntsS [x3.heap.size] W (some ⟨gx, 0, none⟩) (shareF rows most order) from (IntsS.of HX.out (fun b hb => by simp at hb; omega)).agr (Agr.of_below (S := []) HW3.out) (fun b hb => by cases hb))
  replace HW := Lib.hid (below_step HW.out HW3.out)
  have hx3 : w.heap.size ≤ x3.heap.size := by have := HAME.out; omega
  obtain ⟨AT, hAT⟩ : ∃ AT, x3.heap.size = AT := ⟨_, rfl⟩
  rw [hAT] at HAT hWs hamlt hx3 HX ⊢
  clear hAT HW3
  have HMO := Lib.hid (show IntsS [AT] W oz more from (IntsS.of H_more.out (fun b hb => by simp at hb; omega)).agr (Agr.of_below (S := []) HW.out) (fun b hb => by cases hb))
  go_loopw [14, 44] (WideRel W w AT rows) (fun _ i _ => rows.length - (intOf i).toNat)
  case atStart => exact ⟨0, 0, [], Nat.zero_le _, rfl, Nat.le_refl _, ⟨rfl, fun i hi => absurd hi (by omega), fun i hi => absurd hi (by omega), fun a ha => by cases ha⟩, World.ownsRow_nil .., HAT.out, Agr.refl _ _⟩
  case round =>
    obtain ⟨k, t, WL, hk, rfl, htk, hwide, hrow, hat, hagr⟩ := hrel
    clear HAT
    have HWD := Lib.hid hwide
    have HROW := Lib.hid hrow
    have HATB := Lib.hid hat
    have HAGR := Lib.hid hagr
    clear hwide hrow hat hagr
    have HBW := Lib.hid (HAGR.out.below HW.out (fun b hb => by simp at hb; subst hb; exact hx3))
    have hsz := HAGR.out.size
    obtain ⟨ov, cv, hvs, _⟩ := ownsRow_shape' HROW.out
    subst hvs
    by_cases hlt : k < rows.length
    · obtain ⟨g, off, hgo, orr, cp, hw1, hw2, hms, c0, c1⟩ := HRW.out k hlt
      subst hgo
      have HCB := Lib.hid (HV.out.1.row _ (getW_in hlt)).1
      have HAPP := Lib.hid (fun (a : RwA) h1 h2 h3 => HWD.out.app (a := a) h1 h2 h3)
      replace c0 := cell_kept HBW.out c0
      replace c1 := cell_kept HBW.out c1
      obtain ⟨r, hrr⟩ : ∃ r, getW rows k = r := ⟨_, rfl⟩
      rw [hrr] at c0 c1 hw1 hw2 hms HCB HAPP
      have HMS := Lib.hid hms
      clear hrr hms
      have hcb := HCB.out
      have y1 : (0 : Int) ≤ (k : Int) := by omega
      have y2 : (k : Int) < (rows.length : Int) := by omega
      have HBX := Lib.hid (box2 wr 34 (.int .i64 r.c) (.slice orr r.ms.length cp))
      go_wp2_with fail
      clear c0 c1
      obtain ⟨W4, hW4⟩ : ∃ W4 : World, W4 = wr.alloc (.cells #[.int .i64 r.c, .slice orr r.ms.length cp] 34) := ⟨_, rfl⟩
      rw [← hW4] at HBX ⊢
      clear hW4
      have HA4 := Lib.hid (HAGR.out.later HBX.out.1)
      have HB4 := Lib.hid (HATB.out.later HBX.out.1)
      have HR4 := Lib.hid (ownsRow_later HROW.out HBX.out.1)
      have HBk := Lib.hid HBX.out.2
      have hbkl := cell_lt HBX.out.2.1
      have hat4 := HATB.out.lt
      obtain ⟨Bk, hBk⟩ : ∃ Bk, wr.heap.size = Bk := ⟨_, rfl⟩
      have HOWN := Lib.hid HROW.out.lt
      rw [hBk] at HBk hat4 hbkl hsz HOWN ⊢
      clear hBk HBX HAGR HATB HROW HBW
      simp only at hbkl
      refine wp_region_maskT [4, 7, 8, 9, 10] [true, true, true, true, false, true, true, false, false, false, false] (fun w'' => w''.cell? ⟨Bk, 0, none⟩ = some (.int .i64 r.c) ∧ w''.cell? ⟨Bk, 1, none⟩ = some (.slice orr r.ms.length cp)) mixed (by kernel_rfl) ?_
      intro KR hR
      have HR := Lib.hid hR
      clear hR
      simp only [marked]
      apply wpM_val rfl
      · (intro w' hw'; go_simp; with_reducible rfl)
      simp only [Act.put, List.setIfInBounds_toArray, List.set_cons_zero, List.set_cons_succ]
      apply wpM_val rfl
      · (intro w' hw'; go_simp; with_reducible rfl)
      simp only [Act.put, List.setIfInBounds_toArray, List.set_cons_zero, List.set_cons_succ]
      apply wpM_val rfl
      · (intro w' hw'; go_simp; with_reducible rfl)
      simp only [Act.put, List.setIfInBounds_toArray, List.set_cons_zero, List.set_cons_succ]
      apply wpM_val rfl
      · (intro w' hw'; obtain ⟨c0, c1⟩ := hw'; go_simp; with_reducible rfl)
      simp only [Act.put, List.setIfInBounds_toArray, List.set_cons_zero, List.set_cons_succ]
      apply wpM_val rfl
      · (intro w' hw'; go_simp; with_reducible rfl)
      simp only [Act.put, List.setIfInBounds_toArray, List.set_cons_zero, List.set_cons_succ]
      apply wpM_val rfl
      · (intro w' hw'; obtain ⟨c0, c1⟩ := hw'; go_simp; with_reducible rfl)
      simp only [Act.put, List.setIfInBounds_toArray, List.set_cons_zero, List.set_cons_succ]
      refine wpM_nil (HR.out _ ?_)
      clear HR
      have HJ4 := Lib.hid (show W4.drew.cell? ⟨Bk, 0, none⟩ = some (.int .i64 r.c) ∧ W4.drew.cell? ⟨Bk, 1, none⟩ = some (.slice orr r.ms.length cp) from HBk.out)
      have HNEXT := Lib.hid (next_any AM AT oz cz more t r.c 1000000 W4.drew ((HA4.out.cell HAM.out (by simp; omega))) HB4.out (by omega) (HMO.out.agr (HA4.out.later (below_drewN (Below.refl _ _) 1)) (fun b hb => hb)) hl_more (by omega) (by omega))
      refine wpC_call (f := 18) (args := #[.int .i64 r.c, .int .i64 1000000, .pointer (some ⟨AM, 0, none⟩), .pointer (some ⟨AT, 0, none⟩)]) (w' := W4.drew) rfl rfl HJ4.out (by go_simp) ?_
      refine HNEXT.out.mono ?_
      rintro e w5 ⟨v5, t5, hv5a, hv5b, ht5, rfl, ha5, hb5⟩
      refine ⟨_, rfl, ?_⟩
      simp only [Act.put, List.setIfInBounds_toArray]
      have HA5 := Lib.hid ((HA4.out.later (below_drewN (Below.refl _ _) 1)).trans ha5 (fun b hb => hb))
      have HJ5 := Lib.hid (show w5.cell? ⟨Bk, 0, none⟩ = some (.int .i64 r.c) ∧ w5.cell? ⟨Bk, 1, none⟩ = some (.slice orr r.ms.length cp) from ⟨ha5.cell HJ4.out.1 (by simp; omega), ha5.cell HJ4.out.2 (by simp; omega)⟩)
      have HB5 := Lib.hid hb5
      have HR5 := Lib.hid (show w5.ownsRow W.heap.size 34 2 (.slice ov k cv) k (flatW WL) from by
        have h0 := HR4.out
        refine ⟨h0.1, ?_⟩
        rcases h0.2 with h1 | ⟨g1, cap1, cur1, hv1, hg1, hk1, hrest⟩
        · exact .inl h1
        · have hlt1 : g1 < W4.heap.size := (Array.getElem?_eq_some_iff.1 hk1).1
          exact .inr ⟨g1, cap1, cur1, hv1, hg1, (ha5.block g1 hlt1 (by simp; omega)).trans hk1, hrest⟩)
      have hW5 : W.heap.size ≤ w5.heap.size := HA5.out.size
      clear HNEXT ha5 hb5 HA4 HB4 HR4 HJ4
      refine wpC_run rfl rfl HJ5.out (v := .agg #[.int .i64 v5, .slice orr r.ms.length cp]) (w' := w5) (by go_simp) ?_
      simp only [Act.put]
      refine wpC_run rfl rfl HJ5.out (v := .slice (some ⟨w5.heap.size, 0, none⟩) 1 1) (w' := w5.alloc (.cells #[.int .i64 v5, .slice orr r.ms.length cp] 34)) (by go_simp) ?_
      simp only [Act.put]
      obtain ⟨v6, w6, hrun, hown6, hgr6⟩ := run_append1O (P := Try.prog) (tt := 22) (ty := 22) (news := [.int .i64 v5, .slice orr r.ms.length cp]) elemR HR5.out hW5 (by omega) (by decide) rfl (rwC_one ⟨⟨v5, r.ms⟩, orr, cp⟩)
      have HJ6 := Lib.hid (show (w5.alloc (.cells #[.int .i64 v5, .slice orr r.ms.length cp] 34)).cell? ⟨Bk, 0, none⟩ = some (.int .i64 r.c) ∧ (w5.alloc (.cells #[.int .i64 v5, .slice orr r.ms.length cp] 34)).cell? ⟨Bk, 1, none⟩ = some (.slice orr r.ms.length cp) from ⟨cell_kept (below_alloc (Below.refl _ _) _) HJ5.out.1, cell_kept (below_alloc (Below.refl _ _) _) HJ5.out.2⟩)
      refine wpC_append _ _ rfl rfl rfl HJ6.out hrun ?_
      simp only [Act.put]
      clear hrun
      have hown5 := HR5.out.lt
      have HA6 := Lib.hid ((HA5.out.alloc (.cells #[.int .i64 v5, .slice orr r.ms.length cp] 34)).grown hgr6 (fun b hb => (hown5 b hb).1))
      have HB6 := Lib.hid (show Blk w6 AT 3 #[.int .i64 (t5 : Nat)] from by
        have h1 := HB5.out.alloc (.cells #[.int .i64 v5, .slice orr r.ms.length cp] 34)
        exact (hgr6.block AT h1.lt (fun e => by have := (hown5 AT e.symm).1; omega)).trans h1)
      have HJ7 := Lib.hid (show w6.cell? ⟨Bk, 0, none⟩ = some (.int .i64 r.c) ∧ w6.cell? ⟨Bk, 1, none⟩ = some (.slice orr r.ms.length cp) from by
        have hne : some Bk ≠ (Value.slice ov k cv).ownBlock := fun e => by
          have := (HOWN.out Bk e.symm).2
          omega
        exact ⟨(World.cell?_of_block (a := ⟨Bk, 0, none⟩) (hgr6.block Bk (cell_lt HJ6.out.1) hne)).trans HJ6.out.1, (World.cell?_of_block (a := ⟨Bk, 1, none⟩) (hgr6.block Bk (cell_lt HJ6.out.1) hne)).trans HJ6.out.2⟩)
      have HW6 := Lib.hid (HAPP.out ⟨⟨v5, r.ms⟩, orr, cp⟩ rfl ⟨hv5a, hv5b⟩ ⟨hw1, hw2, HMS.out⟩)
      have HO6 := Lib.hid (show w6.ownsRow W.heap.size 34 2 v6 (k + 1) (flatW (WL ++ [⟨⟨v5, r.ms⟩, orr, cp⟩])) from by rw [flatW_snoc]; exact hown6)
      clear hown6 hgr6 hown5 HA5 HB5 HR5 HJ5 HJ6
      refine wpC_run rfl rfl HJ7.out (v := v6) (w' := w6) (by go_simp) ?_
      simp only [Act.put]
      refine wpC_nil ?_
      go_wp2
      go_roundw
      case rel => exact ⟨k + 1, t5, _, by omega, by go_num, by omega, HW6.out, HO6.out, HB6.out, HA6.out⟩
      case measure => simp [intOf]; omega
    · obtain rfl : k = rows.length := by omega
      clear hlt hk
      obtain ⟨W2, hW2⟩ : ∃ W2, W2 = wr := ⟨_, rfl⟩
      subst hW2
      have hatl := HATB.out.lt
      have HLM := Lib.hid HV.out.1.lim
      go_wp2
      go_loopw [17, 61] (HighRel W2 AT t most) (fun _ i _ => most.length - (intOf i).toNat)
      case atStart => exact ⟨0, t, [], Nat.zero_le _, rfl, by omega, rfl, fun i hi => absurd hi (by omega), World.ownsRow_nil .., HATB.out, Agr.refl _ _⟩
      case round =>
        obtain ⟨k, t2, HL, hk, rfl, ht2, hhl, hhb, hrow2, hat2, hagr2⟩ := hrel
        have HHB := Lib.hid hhb
        have HROW2 := Lib.hid hrow2
        have HATB2 := Lib.hid hat2
        have HAGR2 := Lib.hid hagr2
        clear hhb hrow2 hat2 hagr2
        have HB2 := Lib.hid (HAGR2.out.below HBW.out (fun b hb => by simp at hb; subst hb; exact hx3))
        have hsz2 := HAGR2.out.size
        obtain ⟨ov2, cv2, hvs2, _⟩ := ownsRow_shape' HROW2.out
        subst hvs2
        by_cases hlt : k < most.length
        · obtain ⟨g, off, hgo, c0⟩ := (H_most.out.later HB2.out) k hlt
          subst hgo
          have hmb := HLM.out _ (getD_mem hlt)
          have HHN := Lib.hid (show ∀ v5 : Int, most.getD k 0 ≤ v5 → v5 ≤ 1000 → ∀ i, i < k + 1 → most.getD i 0 ≤ (HL ++ [v5]).getD i 0 ∧ (HL ++ [v5]).getD i 0 ≤ 1000 from fun v5 h1 h2 i hi => by
            rw [show (HL ++ [v5]).getD i 0 = ((HL ++ [v5])[i]?).getD 0 from List.getD_eq_getElem?_getD]
            by_cases hik : i < k
            · rw [List.getElem?_append_left (by omega), ← List.getD_eq_getElem?_getD]
              exact HHB.out i hik
            · obtain rfl : i = k := by omega
              rw [List.getElem?_append_right (by omega), hhl, Nat.sub_self]
              exact ⟨h1, h2⟩)
          obtain ⟨m, hm⟩ : ∃ m, most.getD k 0 = m := ⟨_, rfl⟩
          rw [hm] at c0 hmb HHN
          clear hm
          have y1 : (0 : Int) ≤ (k : Int) := by omega
          have y2 : (k : Int) < (most.length : Int) := by omega
          have HNEXT := Lib.hid (next_any AM AT oz cz more t2 m 1000 wr (HAGR2.out.cell (HAGR.out.cell HAM.out (by simp; omega)) (by simp; omega)) HATB2.out (by omega) ((HMO.out.agr HAGR.out (fun b hb => hb)).agr HAGR2.out (fun b hb => hb)) hl_more (by omega) ⟨hmb.1, hmb.2, by decide⟩)
          go_wp2_with fail
          clear c0
          refine HNEXT.out.mono ?_
          rintro e w5 ⟨v5, t5, hv5a, hv5b, ht5, rfl, ha5, hb5⟩
          have HN5 := Lib.hid (HHN.out v5 hv5a hv5b)
          have HA5 := Lib.hid (HAGR2.out.trans ha5 (fun b hb => hb))
          have HB5 := Lib.hid hb5
          have HR5 := Lib.hid (ownsRow_agr HROW2.out ha5 (fun b hb => by simp at hb; omega))
          have hbase : W2.heap.size ≤ w5.heap.size := HA5.out.size
          clear HNEXT ha5 hb5 HAGR2 HATB2 HROW2 HHN HHB HB2
          go_wp2_with (at_builtin; refine wp_append1O (news := [.int .i64 v5]) elemI HR5.out hbase (by omega) (by decide) rfl (oneI _) rfl _ _ rfl rfl rfl rfl ?_)
          intro v6 w6 hr6 hgr6 _
          have hown5 := HR5.out.lt
          have HA6 := Lib.hid ((HA5.out.alloc (.cells [.int .i64 v5].toArray 3)).grown hgr6 (fun b hb => (hown5 b hb).1))
          have HB6 := Lib.hid (show Blk w6 AT 3 #[.int .i64 (t5 : Nat)] from by
            have h1 := HB5.out.alloc (.cells [.int .i64 v5].toArray 3)
            exact (hgr6.block AT h1.lt (fun e => by have := (hown5 AT e.symm).1; omega)).trans h1)
          have HR6 := Lib.hid (show w6.ownsRow W2.heap.size 3 1 v6 (k + 1) ((HL ++ [v5]).map (Value.int .i64 ·)) from by rw [List.map_append]; exact hr6)
          clear hr6 hgr6 hown5 HA5 HB5 HR5
          go_wp2
          go_roundw
          case rel => exact ⟨k + 1, t5, _, by omega, by go_num, by omega, by simp [hhl], HN5.out, HR6.out, HB6.out, HA6.out⟩
          case measure => simp [intOf]; omega
        · obtain rfl : k = most.length := by omega
          have HWR := Lib.hid (HWD.out.rws HB2.out (ownsRow_agr HROW.out HAGR2.out (fun b hb => by simp at hb; omega)))
          have HHI := Lib.hid (ownsRow_ints HROW2.out hhl)
          have HLL := Lib.hid HWD.out.len
          have HVH := Lib.hid (wide_vl HWD.out HV.out.1 hhl (fun m hm => by
            obtain ⟨i, hi⟩ := List.getElem?_of_mem hm
            have hlt : i < most.length := by rw [← hhl]; exact (List.getElem?_eq_some_iff.1 hi).1
            have e : HL.getD i 0 = m := by simp [hi]
            have h1 := HHB.out i hlt
            have h2 := HV.out.1.lim _ (getD_mem hlt)
            rw [e] at h1
            omega))
          have HBET := Lib.hid (share_room HV.out.1 HV.out.2 HVH.out.1 hhl (fun m h1 h2 => (HHB.out m.toNat (by omega)).1) HVH.out.2)
          have HVO := Lib.hid (show (validLim (WL.map (·.r)) HL && isOrd order (HL.length : Nat)) = true by rw [Bool.and_eq_true]; exact ⟨validLim_iff.2 HVH.out.1, by rw [hhl]; exact HV.out.2⟩)
          have HLY := Lib.hid (show (shareF (WL.map (·.r)) HL order).length = most.length by rw [(share_fit HVH.out.1 (by rw [hhl]; exact HV.out.2)).len, hhl])
          obtain ⟨WR, hWR⟩ : ∃ WR, WL.map (·.r) = WR := ⟨_, rfl⟩
          have HWL := Lib.hid (show WR.length = rows.length by rw [← hWR, List.length_map]; exact HLL.out)
          rw [hWR] at HWR HBET HVO HLY
          clear hWR HVH HHB HWD HV HLL HROW2 HATB2
          obtain ⟨Y, hY⟩ : ∃ Y, shareF WR HL order = Y := ⟨_, rfl⟩
          have HYE := Lib.hid hY
          rw [hY] at HBET HLY
          clear hY
          replace HX := Lib.hid (show Ints wr (some ⟨gx, 0, none⟩) (shareF rows most order) from ((HX.out.agr HAGR.out (fun b hb => hb)).agr HAGR2.out (fun b hb => hb)).ints)
          obtain ⟨X, hX⟩ : ∃ X, shareF rows most order = X := ⟨_, rfl⟩
          rw [hX] at HX HBET HLX
          clear hX
          obtain ⟨V, hVe⟩ : ∃ V, bet Y X order = V := ⟨_, rfl⟩
          have HVE := Lib.hid hVe
          rw [hVe] at HBET
          clear hVe
          have hvd : decide (0 ≤ V) = true := decide_eq_true HBET.out
          have hv0 := HBET.out
          go_wp2_with fail
          refine (share_ok ov ov2 oo cv cv2 co rows.length most.length order.length WR HL order wr HWR.out HHI.out (H_order.out.later HB2.out) (by rw [HWL.out]; exact hl) (by omega) (by omega) HWL.out hhl rfl HVO.out HYE.out).mono ?_
          rintro e x4 ⟨hb, gy, hgy, rfl, hy⟩
          replace HB2 := Lib.hid (below_step HB2.out hb)
          replace HX := Lib.hid (HX.out.later hb)
          have HY := Lib.hid hy
          clear hb hy hgy
          go_wp2_with fail
          refine (better_at (some ⟨gy, 0, none⟩) (some ⟨gx, 0, none⟩) oo most.length most.length co most.length most.length order.length Y X order x4 HY.out HX.out (H_order.out.later HB2.out) (by omega) HLY.out HLX.out rfl HVE.out).mono ?_
          rintro e x5 ⟨rfl, hb⟩
          replace HB2 := Lib.hid (below_step HB2.out hb)
          clear hb
          go_wp2
          go_ret
          exact ⟨rfl, HB2.out⟩
end Go.Proofs.Ytjaeekikddbbeaa
