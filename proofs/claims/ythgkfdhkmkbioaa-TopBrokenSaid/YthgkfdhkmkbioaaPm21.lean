/- Package plan: CheckCut. -/
import Derived.Test.YthgkfdhkmkbioaaPl21
import Derived.Test.YthgkfdhkmkbioaaPk21
namespace Go.Proofs.Ythgkfdhkmkbioaa
open Go.RowKit Go.Shelf
attribute [local go_sem] Oper.semAt_some

structure CkM (w wr : World) (P C M9 MB RB : Nat) (oj : Option Addr) (n cj m : Nat) (v1 v2 : Value) (tl : List Nat) (rm : Int) (Ds : List Nat) : Prop where
  bel : Below w.heap.size w wr
  p : Blk wr P 22 #[.slice oj n cj]
  c : Blk wr C 30 #[v1, v2]
  m9 : Blk wr M9 60 #[.slice (some ⟨MB, 0, none⟩) m m]
  mb : Blk wr MB 4 (boolsC (markL tl m))
  rb : Blk wr RB 3 #[.int .i64 rm]
  low : w.heap.size ≤ RB
  ds : ∀ D ∈ Ds, wr.heap[D]? = some (.deferred (some []))
section
variable {w wr w' : World} {P C M9 MB RB : Nat} {oj : Option Addr} {n cj m : Nat} {v1 v2 : Value} {tl : List Nat} {rm : Int} {Ds : List Nat}
theorem CkM.later (h : CkM w wr P C M9 MB RB oj n cj m v1 v2 tl rm Ds) (hb : Below wr.heap.size wr w') : CkM w w' P C M9 MB RB oj n cj m v1 v2 tl rm Ds :=
  ⟨below_step h.bel hb, h.p.later hb, h.c.later hb, h.m9.later hb, h.mb.later hb, h.rb.later hb, h.low, fun D hD => (hb.block D (Array.getElem?_eq_some_iff.1 (h.ds D hD)).1).trans (h.ds D hD)⟩
theorem CkM.turn {B : Nat} {row : Option Nat} (h : CkM w wr P C M9 MB RB oj n cj m v1 v2 tl rm Ds) (hB : ∀ D ∈ Ds, D < B) (hw : w.heap.size ≤ B) (hg : wr.grownBy w' row) (hr : ∀ r, row = some r → B ≤ r ∧ ∃ o : Obj, wr.heap[r]? = some o ∧ o.isCells = false) : CkM w w' P C M9 MB RB oj n cj m v1 v2 tl rm Ds :=
  have hr2 := fun r e => (hr r e).2
  ⟨h.bel.grown hg h.bel.size (fun k e => Nat.le_trans hw (hr k e).1), blk_turn h.p hg hr2, blk_turn h.c hg hr2, blk_turn h.m9 hg hr2, blk_turn h.mb hg hr2, blk_turn h.rb hg hr2, h.low,
    fun D hD => (hg.block D (Array.getElem?_eq_some_iff.1 (h.ds D hD)).1 (fun e => by have := (hr D e.symm).1; have := hB D hD; omega)).trans (h.ds D hD)⟩
theorem CkM.mark (h : CkM w wr P C M9 MB RB oj n cj m v1 v2 tl rm Ds) {D : Nat} (hD : wr.heap[D]? = some (.deferred (some []))) : CkM w wr P C M9 MB RB oj n cj m v1 v2 tl rm (D :: Ds) :=
  ⟨h.bel, h.p, h.c, h.m9, h.mb, h.rb, h.low, fun D' hD' => by
    rcases List.mem_cons.1 hD' with e | e
    · rw [e]; exact hD
    · exact h.ds D' e⟩
theorem CkM.setR (h : CkM w wr P C M9 MB RB oj n cj m v1 v2 tl rm Ds) (x : Int) : CkM w (wr.setCell ⟨RB, 0, none⟩ (.int .i64 x)) P C M9 MB RB oj n cj m v1 v2 tl x Ds :=
  ⟨h.bel.setCell h.low _, h.p.other (p := ⟨RB, 0, none⟩) (Blk.ne h.p h.rb (by decide)) _, h.c.other (p := ⟨RB, 0, none⟩) (Blk.ne h.c h.rb (by decide)) _, h.m9.other (p := ⟨RB, 0, none⟩) (Blk.ne h.m9 h.rb (by decide)) _, h.mb.other (p := ⟨RB, 0, none⟩) (Blk.ne h.mb h.rb (by decide)) _, by
    have := h.rb.set 0 (.int .i64 x)
    simpa using this, h.low, fun D hD => mark_cell h.rb (h.ds D hD) rfl⟩
end
/-- The frame at the second loop. -/
def ckF (o1 : Option Addr) (ln k1 P M9 RB : Nat) (nd : Int) (c : Value) (u : Nat → Value) (ds : List Deferred) : Act := { tmps := #[u 0, u 1, u 2, .pointer (some ⟨P, 0, none⟩), u 4, u 5, u 6, u 7, u 8, .pointer (some ⟨M9, 0, none⟩), u 10, .int .i64 nd, .pointer (some ⟨RB, 0, none⟩), u 13, u 14, u 15, u 16, u 17, u 18, u 19, u 20, u 21, u 22, u 23, u 24, u 25, u 26, u 27, u 28, u 29, u 30, u 31, u 32, u 33, u 34, u 35, u 36, u 37, u 38, u 39, u 40, u 41, u 42, u 43, u 44, u 45, u 46, u 47, u 48, u 49, u 50, u 51, u 52, u 53, u 54, u 55, u 56, u 57, u 58, u 59, .slice o1 ln k1, .int .i64 ln, c, u 63, u 64, u 65, u 66, u 67, u 68, u 69, u 70, u 71, u 72, u 73, u 74, u 75, u 76, u 77, u 78, u 79, u 80, u 81, u 82, u 83, u 84, u 85, u 86, u 87, u 88, u 89, u 90, u 91, u 92, u 93, u 94, u 95, u 96], defers := ds }
def ckB (o1 : Option Addr) (ln k1 P M9 RB IB t : Nat) (nd : Int) (c : Value) (u : Nat → Value) : Act := { tmps := #[u 0, u 1, u 2, .pointer (some ⟨P, 0, none⟩), u 4, u 5, u 6, u 7, u 8, .pointer (some ⟨M9, 0, none⟩), u 10, .int .i64 nd, .pointer (some ⟨RB, 0, none⟩), u 13, u 14, u 15, .pointer (some ⟨IB, 0, none⟩), .int .i64 (t : Nat), u 18, u 19, u 20, u 21, u 22, u 23, u 24, u 25, u 26, u 27, u 28, u 29, u 30, u 31, u 32, u 33, u 34, u 35, u 36, u 37, u 38, u 39, u 40, u 41, u 42, u 43, u 44, u 45, u 46, u 47, u 48, u 49, u 50, u 51, u 52, u 53, u 54, u 55, u 56, u 57, u 58, u 59, .slice o1 ln k1, .int .i64 ln, c, u 63, u 64, u 65, u 66, u 67, u 68, u 69, u 70, u 71, u 72, u 73, u 74, u 75, u 76, u 77, u 78, u 79, u 80, u 81, u 82, u 83, u 84, u 85, u 86, u 87, u 88, u 89, u 90, u 91, u 92, u 93, u 94, u 95, u 96], defers := [] }
theorem below_taken {w wr : World} (h : Below w.heap.size w wr) {D : Nat} (hl : w.heap.size ≤ D) : Below w.heap.size w (wr.putObj D (.deferred none)) :=
  h.grown (grownBy_putObj' wr D (.deferred none)) h.size (fun k e => by cases e; exact hl)
def S5 {F T : Nat} (w W : World) (P C M9 MB RB : Nat) (oj : Option Addr) (n cj m : Nat) (v1 v2 : Value) (tl : List Nat) (R r : Int) (i IB q : Nat) (bx : Array Value) (Ds : List Nat) (pre : List (SlT F T)) : Prop :=
  ∃ rm, CkM w W P C M9 MB RB oj n cj m v1 v2 tl rm Ds ∧ (0 ≤ rm ∧ rm ≤ R + 1000 * pre.length) ∧ (pre.map (·.1) = List.range' F pre.length → rm = R + sumN pre.length (outG tl F r)) ∧ Blk W IB 3 #[.int .i64 (i : Nat)] ∧ Blk W q 27 bx
theorem S5.turn {F T : Nat} {w W W' : World} {P C M9 MB RB : Nat} {oj : Option Addr} {n cj m : Nat} {v1 v2 : Value} {tl : List Nat} {R r : Int} {i IB q : Nat} {bx : Array Value} {Ds : List Nat} {pre : List (SlT F T)} {B : Nat} {row : Option Nat} (h : S5 w W P C M9 MB RB oj n cj m v1 v2 tl R r i IB q bx Ds pre) (hB : ∀ D ∈ Ds, D < B) (hw : w.heap.size ≤ B) (hg : W.grownBy W' row) (hr : ∀ r, row = some r → B ≤ r ∧ ∃ o : Obj, W.heap[r]? = some o ∧ o.isCells = false) : S5 w W' P C M9 MB RB oj n cj m v1 v2 tl R r i IB q bx Ds pre := by
  obtain ⟨rm, h1, h2, h3, h4, h5⟩ := h
  exact ⟨rm, h1.turn hB hw hg hr, h2, h3, blk_turn h4 hg (fun r e => (hr r e).2), blk_turn h5 hg (fun r e => (hr r e).2)⟩
structure CutF (J : List Jb) (S : List Int) (cl tl : List Nat) : Prop where
  sup : ∀ t, t < S.length → 0 ≤ S.getD t 0 ∧ S.getD t 0 ≤ 1000
  r0 : ∀ k, k ≤ tl.length → 0 ≤ sumF (tl.take k) (fun t => S.getD t 0) ∧ sumF (tl.take k) (fun t => S.getD t 0) ≤ 24000
  nd : ∀ k, k ≤ cl.length → 0 ≤ sumF (cl.take k) (fun i => (getJ J i).e) ∧ sumF (cl.take k) (fun i => (getJ J i).e) ≤ 12000
  out : ∀ k, k ≤ cl.length → 0 ≤ sumF (cl.take k) (outJ J tl) ∧ sumF (cl.take k) (outJ J tl) ≤ 288000
theorem outG_bd {tl : List Nat} {F d : Nat} {r : Int} (h0 : 0 ≤ r) (h1 : r ≤ 1000) : 0 ≤ outG tl F r d ∧ outG tl F r d ≤ 1000 := by
  unfold outG
  split
  · exact ⟨Int.le_refl _, by decide⟩
  · exact ⟨h0, h1⟩
theorem cut_facts {J : List Jb} {S : List Int} {cl tl : List Nat} (hv : ValidP J S) (hc : Inc J.length cl) (ht : Inc S.length tl) : CutF J S cl tl := by
  have hsup : ∀ t, t < S.length → 0 ≤ S.getD t 0 ∧ S.getD t 0 ≤ 1000 := fun t ht => hv.s _ (by rw [List.getD_eq_getElem?_getD, List.getElem?_eq_getElem ht]; exact List.getElem_mem ht)
  have h12 := hv.j12
  have h24 := hv.s24
  have hl1 := hc.len
  have hl2 := ht.len
  refine ⟨hsup, fun k hk => ?_, fun k hk => ?_, fun k hk => ?_⟩
  · have := sumF_bd (l := tl.take k) (f := fun t => S.getD t 0) (M := 1000) (fun x hx => hsup x (ht.bd x (List.mem_of_mem_take hx)))
    rw [List.length_take] at this
    omega
  · have := sumF_bd (l := cl.take k) (f := fun i => (getJ J i).e) (M := 1000) (fun x hx => by
      have := hv.j _ (getJ_mem (hc.bd x (List.mem_of_mem_take hx)))
      exact ⟨this.e0, this.e1⟩)
    rw [List.length_take] at this
    omega
  · have := sumF_bd (l := cl.take k) (f := outJ J tl) (M := 24000) (fun x hx => by
      have hj := hv.j _ (getJ_mem (hc.bd x (List.mem_of_mem_take hx)))
      have a0 := hj.f0
      have a1 := hj.ft
      have a2 := hj.tm
      have hb := sumN_bd (f := outG tl (getJ J x).f.toNat (getJ J x).r) (k := lenJ (getJ J x)) (fun i _ => outG_bd hj.r0 hj.r1)
      have hl : lenJ (getJ J x) ≤ 24 := by unfold lenJ; omega
      unfold outJ
      omega)
    rw [List.length_take] at this
    omega
def Rel5 (w : World) (J : List Jb) (S : List Int) (cl tl : List Nat) (o1 oj : Option Addr) (cj k1 k2 : Nat) (o2 : Option Addr) (M9 MB RB : Nat) (R0 : Int) (a : Act) (W : World) : Prop :=
  ∃ (k : Nat) (Ds : List Nat) (rm : Int), k ≤ cl.length ∧ a = ckF o1 cl.length k1 w.heap.size M9 RB (sumF (cl.take k) (fun i => (getJ J i).e)) (.int .i64 k) (fun i => a.tmps.getD i undef) (marksD Ds) ∧ CkM w (W) w.heap.size (w.heap.size + 1) M9 MB RB oj J.length cj S.length (.slice o1 cl.length k1) (.slice o2 tl.length k2) tl rm Ds ∧ rm = R0 + sumF (cl.take k) (outJ J tl) ∧ Ds.Nodup ∧ (∀ D ∈ Ds, w.heap.size ≤ D)
set_option maxRecDepth 100000 in
set_option maxHeartbeats 16000000 in
theorem checkCut_ok (w : World) (J : List Jb) (S : List Int) (cl tl : List Nat) (oj os o1 o2 : Option Addr) (cj cs k1 k2 : Nat) (hj : JobsM w oj J) (hs : Ints w os S) (h1 : Ints w o1 (natI cl)) (h2 : Ints w o2 (natI tl)) (hv : ValidP J S) (hc : Inc J.length cl) (ht : Inc S.length tl) (hcut : CutL J S cl tl) :
    Calls Try.prog 10 #[.slice oj J.length cj, .slice os S.length cs, .agg #[.slice o1 cl.length k1, .slice o2 tl.length k2]] w (Ret (.bool true) w) := by
  have HJ := Lib.hid hj
  have HS := Lib.hid hs
  have HC1 := Lib.hid h1
  have HC2 := Lib.hid h2
  have HV := Lib.hid hv
  have HC := Lib.hid hc
  have HT := Lib.hid ht
  have HF := Lib.hid (cut_facts hv hc ht)
  have HLT := Lib.hid (cut_sums hv hc ht hcut)
  have hn12 := hv.j12
  have hm24 := hv.s24
  have hcl := hc.len
  have htl := ht.len
  have HVB := Lib.hid (validP_iff.2 hv)
  clear hj hs h1 h2 hv hc ht hcut
  obtain ⟨n, hn⟩ : ∃ n : Nat, 6 ≤ n := ⟨8, by omega⟩
  refine (callsIn_wide (n := n)).1 ?_
  refine callsIn_of_wp_marks Try.func10 rfl trivial ?_ rfl
  simp only [Try.ntmps10, List.size_toArray, List.length_cons, List.length_nil, Nat.reduceAdd, Nat.reduceSub, Array.replicate_succ, Array.replicate_zero, List.push_toArray, List.append_toArray, List.nil_append, List.cons_append]
  refine wpIn_wide.2 ?_
  go_upto_region 1 with (fail)
  obtain ⟨W1, hW1⟩ : ∃ W, W = (w.alloc (.cells #[.slice oj J.length cj] 22)).alloc (.cells #[.slice o1 cl.length k1, .slice o2 tl.length k2] 30) := ⟨_, rfl⟩
  have HB1 := Lib.hid (show Below w.heap.size w W1 by rw [hW1]; exact below_alloc (below_alloc (Below.refl _ _) _) _)
  have HP1 := Lib.hid (show Blk W1 w.heap.size 22 #[.slice oj J.length cj] by rw [hW1]; exact (Blk.new ..).alloc _)
  have HK1 := Lib.hid (show Blk W1 (w.heap.size + 1) 30 #[.slice o1 cl.length k1, .slice o2 tl.length k2] by
    rw [hW1]
    have := Blk.new (w.alloc (.cells #[.slice oj J.length cj] 22)) 30 #[.slice o1 cl.length k1, .slice o2 tl.length k2]
    rwa [World.size_alloc] at this)
  rw [← hW1]
  clear hW1
  have p1 := HP1.out.cell 0
  have HVA := Lib.hid (pvalid_any J S oj os cj cs W1 (HJ.out.later HB1.out) (HS.out.later HB1.out))
  rw [HVB.out] at HVA
  go_wp2_with fail
  refine HVA.out.mono ?_
  rintro _ W2 ⟨rfl, hb2⟩
  have HB2 := Lib.hid (below_step HB1.out hb2)
  have HP2 := Lib.hid (HP1.out.later hb2)
  have HK2 := Lib.hid (HK1.out.later hb2)
  clear hb2 HVA HB1 HP1 HK1 p1
  have p2 := HP2.out.cell 0
  have q2 := HK2.out.cell 0
  have HMA := Lib.hid (marks_ok o1 k1 cl J.length W2 (HC1.out.later HB2.out) HC.out (by omega))
  go_wp2_with fail
  refine HMA.out.mono ?_
  rintro _ W3 ⟨hb3, M1, rfl, _, _⟩
  have HB3 := Lib.hid (below_step HB2.out hb3)
  have HP3 := Lib.hid (HP2.out.later hb3)
  have HK3 := Lib.hid (HK2.out.later hb3)
  clear hb3 HMA HB2 HP2 HK2 p2 q2
  have q3 := HK3.out.cell 1
  have HMA := Lib.hid (marks_ok o2 k2 tl S.length W3 (HC2.out.later HB3.out) HT.out (by omega))
  go_wp2_with fail
  refine HMA.out.mono ?_
  rintro _ W4 ⟨hb4, MB, rfl, _, hmb⟩
  have HB4 := Lib.hid (below_step HB3.out hb4)
  have HP4 := Lib.hid (HP3.out.later hb4)
  have HK4 := Lib.hid (HK3.out.later hb4)
  have HMB4 := Lib.hid hmb
  clear hb4 HMA HB3 HP3 HK3 q3 hmb
  go_upto_region 8 with (fail)
  obtain ⟨W5, hW5⟩ : ∃ W, W = (W4.alloc (.cells #[.slice (some ⟨MB, 0, none⟩) S.length S.length] 60)).alloc (.cells #[.int .i64 0] 3) := ⟨_, rfl⟩
  have hb5 : Below W4.heap.size W4 W5 := by rw [hW5]; exact below_alloc (below_alloc (Below.refl _ _) _) _
  have HM9 := Lib.hid (show Blk W5 W4.heap.size 60 #[.slice (some ⟨MB, 0, none⟩) S.length S.length] by rw [hW5]; exact (Blk.new ..).alloc _)
  have HRB := Lib.hid (show Blk W5 (W4.heap.size + 1) 3 #[.int .i64 0] by
    rw [hW5]
    have := Blk.new (W4.alloc (.cells #[.slice (some ⟨MB, 0, none⟩) S.length S.length] 60)) 3 #[.int .i64 0]
    rwa [World.size_alloc] at this)
  have HCK : Hid (CkM w W5 w.heap.size (w.heap.size + 1) W4.heap.size MB (W4.heap.size + 1) oj J.length cj S.length (.slice o1 cl.length k1) (.slice o2 tl.length k2) tl 0 []) := Lib.hid ⟨below_step HB4.out hb5, HP4.out.later hb5, HK4.out.later hb5, HM9.out, HMB4.out.later hb5, HRB.out, Nat.le_succ_of_le HB4.out.size, fun D hD => by cases hD⟩
  rw [← hW5]
  clear hW5 hb5 HB4 HP4 HK4 HMB4 HM9 HRB
  obtain ⟨M9, hM9⟩ : ∃ B, W4.heap.size = B := ⟨_, rfl⟩
  obtain ⟨RB, hRB⟩ : ∃ B, W4.heap.size + 1 = B := ⟨_, rfl⟩
  rw [hRB, hM9] at HCK
  rw [hRB, hM9]
  clear hM9 hRB
  have q5 := HCK.out.c.cell 1
  go_wp2_with fail
  clear q5
  go_loopw [47] (fun i wr => ∃ (k : Nat), k ≤ tl.length ∧ i = .int .i64 k ∧ CkM w (wr) w.heap.size (w.heap.size + 1) M9 MB RB oj J.length cj S.length (.slice o1 cl.length k1) (.slice o2 tl.length k2) tl (sumF (tl.take k) (fun t => S.getD t 0)) []) (fun i _ => tl.length - (intOf i).toNat)
  case atStart => exact ⟨0, Nat.zero_le _, rfl, HCK.out⟩
  case round =>
    obtain ⟨k, hk, rfl, hm⟩ := hrel
    obtain ⟨wA, rfl⟩ : ∃ wA : World, wA = wr := ⟨_, rfl⟩
    clear HCK
    have HM := Lib.hid hm
    clear hm
    by_cases hlt : k < tl.length
    · obtain ⟨b2, off2, rfl, t0⟩ := (HC2.out.later HM.out.bel) k (by rw [natI_length]; exact hlt)
      rw [natI_get hlt] at t0
      have hxn := HT.out.get hlt
      obtain ⟨b, off, rfl, s0⟩ := (HS.out.later HM.out.bel) _ hxn
      have hsup := HF.out.sup _ hxn
      have HSU := Lib.hid (sumF_take (f := fun t => S.getD t 0) hlt)
      have hr0 := HF.out.r0 k hk
      obtain ⟨x, hx⟩ : ∃ x, tl.getD k 0 = x := ⟨_, rfl⟩
      obtain ⟨R, hR⟩ : ∃ x, sumF (tl.take k) (fun t => S.getD t 0) = x := ⟨_, rfl⟩
      rw [hx] at t0 hxn s0 hsup HSU
      obtain ⟨s, hsx⟩ : ∃ s, S.getD x 0 = s := ⟨_, rfl⟩
      rw [hsx] at s0 hsup HSU
      rw [hR] at hr0 HSU HM
      clear hx hR hsx
      have y1 : (0 : Int) ≤ (k : Int) := by omega
      have y2 : (k : Int) < (tl.length : Int) := by omega
      have x1 : (0 : Int) ≤ (x : Int) := by omega
      have x2 : (x : Int) < (S.length : Int) := by omega
      have HS0 := Lib.hid s0
      go_upto_region 11 with (fail)
      clear t0 s0
      refine wp_region_mask [5, 6, 7] [true, true, true, true, true, false, false, false] (fun w'' => w''.cell? ⟨RB, 0, none⟩ = some (.int .i64 R) ∧ w''.cell? ⟨b, off + x, none⟩ = some (.int .i64 s)) mixed (by kernel_rfl) ?_
      intro KR hR
      have HR := Lib.hid hR
      clear hR
      simp only [marked]
      apply wpM_val rfl
      · (intro w' hw'; obtain ⟨c0, c1⟩ := hw'; go_simp; with_reducible rfl)
      simp only [Act.put, List.setIfInBounds_toArray, List.set_cons_zero, List.set_cons_succ]
      apply wpM_val rfl
      · (intro w' hw'; go_simp; with_reducible rfl)
      simp only [Act.put, List.setIfInBounds_toArray, List.set_cons_zero, List.set_cons_succ]
      apply wpM_val rfl
      · (intro w' hw'; go_simp; with_reducible rfl)
      simp only [Act.put, List.setIfInBounds_toArray, List.set_cons_zero, List.set_cons_succ]
      apply wpM_val rfl
      · (intro w' hw'; go_simp; with_reducible rfl)
      simp only [Act.put, List.setIfInBounds_toArray, List.set_cons_zero, List.set_cons_succ]
      apply wpM_val rfl
      · (intro w' hw'; obtain ⟨c0, c1⟩ := hw'; go_simp; with_reducible rfl)
      simp only [Act.put, List.setIfInBounds_toArray, List.set_cons_zero, List.set_cons_succ]
      refine wpM_nil (HR.out _ ?_)
      clear HR
      have HJX := Lib.hid (fun (w'' : World) (hb : Below wA.heap.size wA w'') => show w''.cell? ⟨RB, 0, none⟩ = some (.int .i64 R) ∧ w''.cell? ⟨b, off + x, none⟩ = some (.int .i64 s) from ⟨(HM.out.later hb).rb.cell 0, cell_kept hb HS0.out⟩)
      obtain ⟨W6, hW6⟩ : ∃ W, W = wA.drew := ⟨_, rfl⟩
      have hb6 : Below wA.heap.size wA W6 := by rw [hW6]; exact (Below.refl _ _).drew
      rw [← hW6]
      clear hW6
      refine wpC_run rfl rfl (HJX.out W6 hb6) (v := .slice (some ⟨W6.heap.size, 0, none⟩) 2 2) (w' := W6.alloc (.cells #[.int .i64 R, .int .i64 s] 3)) (by go_simp) ?_
      simp only [Act.put, List.setIfInBounds_toArray]
      have HSM := Lib.hid (sum2_any W6.heap.size R s (W6.alloc (.cells #[.int .i64 R, .int .i64 s] 3)) (Blk.new ..) (by omega) (by omega))
      have hb7 := below_alloc hb6 (.cells #[.int .i64 R, .int .i64 s] 3)
      refine wpC_call (f := 19) (args := #[.slice (some ⟨W6.heap.size, 0, none⟩) 2 2]) (w' := W6.alloc (.cells #[.int .i64 R, .int .i64 s] 3)) rfl rfl (HJX.out _ hb7) (by go_simp) ?_
      refine HSM.out.mono ?_
      rintro _ W8 ⟨rfl, hb8⟩
      refine ⟨_, rfl, ?_⟩
      simp only [Act.put]
      have hb9 := below_step hb7 hb8
      clear HSM hb6 hb7 hb8
      have HM8 := Lib.hid (HM.out.later hb9)
      have HJ8 := Lib.hid (HJX.out W8 hb9)
      have HBL := Lib.hid hb9
      clear hb9
      have r8 := HM8.out.rb.cell 0
      have f8 := HM8.out.rb.frozen 0
      refine wpC_skipN rfl rfl rfl HJ8.out (w' := W8.setCell ⟨RB, 0, none⟩ (.int .i64 (R + s))) (by go_simp) ?_
      refine wpC_nil ?_
      have HM9 := Lib.hid (HM8.out.setR (R + s))
      clear r8 f8
      go_wp2
      refine ⟨⟨k + 1, hlt, by go_num, ?_⟩, meas_lt hlt⟩
      rw [HSU.out]
      exact HM9.out
    · obtain rfl : k = tl.length := by omega
      clear hlt hk
      rw [List.take_length] at HM
      obtain ⟨R0, hR0⟩ : ∃ R, sumF tl (fun t => S.getD t 0) = R := ⟨_, rfl⟩
      have HR0 := Lib.hid hR0
      have hr0 := HF.out.r0 tl.length (Nat.le_refl _)
      rw [List.take_length, hR0] at hr0
      rw [hR0] at HM HLT
      clear hR0
      have q6 := HM.out.c.cell 0
      go_wp2_with fail
      rename_i K5 hK5
      have HEND : ∀ (a : Act) (Ds : List Nat) (W : World) (rm : Int), a = ckF o1 cl.length k1 w.heap.size M9 RB (sumF cl (fun i => (getJ J i).e)) (.int .i64 cl.length) (fun i => a.tmps.getD i undef) (marksD Ds) → CkM w (W) w.heap.size (w.heap.size + 1) M9 MB RB oj J.length cj S.length (.slice o1 cl.length k1) (.slice o2 tl.length k2) tl rm Ds → rm = R0 + sumF cl (outJ J tl) → Ds.Nodup → (∀ D ∈ Ds, w.heap.size ≤ D) → K5 a W := by
        intro a Ds W rm ha hm hrm hnd hlo
        have HM := Lib.hid hm
        have HDN := Lib.hid hnd
        have HDL := Lib.hid hlo
        obtain ⟨nd, hnd2⟩ : ∃ x, sumF cl (fun i => (getJ J i).e) = x := ⟨_, rfl⟩
        rw [hnd2] at ha HLT
        obtain ⟨u, ha⟩ : ∃ u, a = ckF o1 cl.length k1 w.heap.size M9 RB nd (.int .i64 cl.length) u (marksD Ds) := ⟨_, ha⟩
        subst ha
        have d1 : decide (rm < nd) = true := decide_eq_true (by rw [hrm]; exact HLT.out)
        have r1 := hm.rb.cell 0
        clear hm hnd hlo hnd2 hrm
        refine hK5 _ _ ?_
        unfold ckF
        go_wp2
        (try simp only [Exit.noGoto_ret])
        refine leaves_marks w.heap.size (fun W' => Below w.heap.size w W') (fun W' D hD h1 h2 => below_taken h2 hD) Ds _ _ (by simp) HDN.out (fun D hD => ⟨HDL.out D hD, HM.out.ds D hD⟩) HM.out.bel ?_
        intro W' hm'
        refine ⟨.bool true, ?_, rfl, hm'⟩
        simp [results, Try.results10, go_sem]
      have HENDH := Lib.hid HEND
      clear HEND hK5
      refine (wpIn_wide (n := n)).1 ?_
      refine wpIn_loop (Rel5 w J S cl tl o1 oj cj k1 k2 o2 M9 MB RB R0) (fun a _ => cl.length - (intOf (a.tmps.getD 62 undef)).toNat) ⟨0, [], R0, Nat.zero_le _, rfl, HM.out, by show R0 = R0 + 0; omega, List.nodup_nil, fun _ h => (by cases h)⟩ ?_
      clear HM q6
      rintro a4 W ⟨k, Ds, rm, hk, ha, hm, hrm, hnd, hlo⟩
      obtain ⟨u, ha⟩ : ∃ u, a4 = ckF o1 cl.length k1 w.heap.size M9 RB (sumF (cl.take k) (fun i => (getJ J i).e)) (.int .i64 k) u (marksD Ds) := ⟨_, ha⟩
      subst ha
      unfold ckF
      have HM := Lib.hid hm
      have HRM := Lib.hid hrm
      have HDN := Lib.hid hnd
      have HDL := Lib.hid hlo
      clear hm hrm hnd hlo
      by_cases hlt : k < cl.length
      · obtain ⟨b2, off2, rfl, t0⟩ := (HC1.out.later HM.out.bel) k (by rw [natI_length]; exact hlt)
        rw [natI_get hlt] at t0
        have hin := HC.out.get hlt
        obtain ⟨b, off, rfl, c0, c1, c2, c3, c4⟩ := (HJ.out.later HM.out.bel) _ hin
        obtain ⟨b', off', hbo, _, _, _, w3, _⟩ := HJ.out _ hin
        cases hbo
        have hej := HV.out.j _ (getJ_mem hin)
        have HSU := Lib.hid (sumF_take (f := fun i => (getJ J i).e) hlt)
        have HSO := Lib.hid (sumF_take (f := outJ J tl) hlt)
        have hnd0 := HF.out.nd k hk
        have hou := HF.out.out k hk
        obtain ⟨i, hi⟩ : ∃ x, cl.getD k 0 = x := ⟨_, rfl⟩
        obtain ⟨ND, hND⟩ : ∃ x, sumF (cl.take k) (fun i => (getJ J i).e) = x := ⟨_, rfl⟩
        rw [hi] at t0 hin c0 c1 c2 c3 c4 hej HSU HSO w3
        rw [hND] at hnd0 HSU ⊢
        have hjb : 0 ≤ (getJ J i).e ∧ (getJ J i).e ≤ 1000 ∧ 0 ≤ (getJ J i).r ∧ (getJ J i).r ≤ 1000 := ⟨hej.e0, hej.e1, hej.r0, hej.r1⟩
        obtain ⟨F, T, e, r, kk, hj⟩ := job_nat hej
        have HFT := Lib.hid (show F ≤ T ∧ T ≤ S.length by
          have a0 := hej.ft; have a1 := hej.tm
          rw [hj] at a0 a1
          dsimp only at a0 a1
          omega)
        have HOJ := Lib.hid (show outJ J tl i = sumN (T - F) (outG tl F r) by
          unfold outJ lenJ
          rw [hj]
          dsimp only
          rw [Int.toNat_natCast, Int.toNat_natCast])
        rw [hj] at c0 c1 c2 c3 c4 hjb HSU w3
        clear hj hej hi hND
        dsimp only at c0 c1 c2 c3 c4 hjb HSU w3
        have HW3 := Lib.hid w3
        clear w3
        have y1 : (0 : Int) ≤ (k : Int) := by omega
        have y2 : (k : Int) < (cl.length : Int) := by omega
        have x1 : (0 : Int) ≤ (i : Int) := by omega
        have x2 : (i : Int) < (J.length : Int) := by omega
        have p0 := HM.out.p.cell 0
        have hrm1 : 0 ≤ rm ∧ rm ≤ 400000 := by rw [HRM.out]; omega
        have HJC := Lib.hid (show ∀ W', Below W.heap.size W W' → W'.cell? ⟨b, off + i * 5, none⟩ = some (.int .i64 (F : Nat)) ∧ W'.cell? ⟨b, off + i * 5 + 1, none⟩ = some (.int .i64 (T : Nat)) ∧ W'.cell? ⟨b, off + i * 5 + 2, none⟩ = some (.int .i64 e) ∧ W'.cell? ⟨b, off + i * 5 + 3, none⟩ = some (.int .i64 r) ∧ W'.cell? ⟨b, off + i * 5 + 4, none⟩ = some (.int .i64 kk) from fun W' hb => ⟨cell_kept hb c0, cell_kept hb c1, cell_kept hb c2, cell_kept hb c3, cell_kept hb c4⟩)
        refine wpIn_wide.2 ?_
        go_upto_region 16 with (fail)
        obtain ⟨W2, hW2⟩ : ∃ W', W' = W.alloc (.cells #[.int .i64 (i : Nat)] 3) := ⟨_, rfl⟩
        have hb2 : Below W.heap.size W W2 := by rw [hW2]; exact below_alloc (Below.refl _ _) _
        have HI2 := Lib.hid (show Blk W2 W.heap.size 3 #[.int .i64 (i : Nat)] by rw [hW2]; exact Blk.new ..)
        have HM2 := Lib.hid (HM.out.later hb2)
        have HNI := Lib.hid (show W.heap.size ≠ RB from fun e => by have := HM.out.rb.lt; omega)
        have HB2 := Lib.hid hb2
        rw [← hW2]
        clear hW2 hb2 c0 c1 c2 c3 c4 p0 t0
        obtain ⟨IB, hIB⟩ : ∃ F, W.heap.size = F := ⟨_, rfl⟩
        rw [hIB] at HI2 HNI
        rw [hIB]
        have HIB := Lib.hid hIB
        clear hIB
        have p2 := HM2.out.p.cell 0
        have i2 := HI2.out.cell 0
        obtain ⟨c0, c1, c2, c3, c4⟩ := HJC.out W2 HB2.out
        have al : Below W2.heap.size W2 (W2.alloc (.cells #[.int .i64 ND, .int .i64 e] 3)) := below_alloc (Below.refl _ _) _
        have HSM := Lib.hid (sum2_any W2.heap.size ND e (W2.alloc (.cells #[.int .i64 ND, .int .i64 e] 3)) (Blk.new ..) (by omega) (by omega))
        have HAL := Lib.hid al
        clear al
        go_wp2_with fail
        refine HSM.out.mono ?_
        rintro _ W3 ⟨rfl, hb3⟩
        have HB3 := Lib.hid (below_step HAL.out hb3)
        have HM3 := Lib.hid (HM2.out.later HB3.out)
        have HI3 := Lib.hid (HI2.out.later HB3.out)
        have HBW := Lib.hid (below_step HB2.out HB3.out)
        clear hb3 HSM HAL c0 c1 c2 c3 c4 p2 i2
        have p2 := HM3.out.p.cell 0
        have i2 := HI3.out.cell 0
        obtain ⟨c0, c1, c2, c3, c4⟩ := HJC.out W3 HBW.out
        go_wp2_with fail
        refine (slots_any (F : Int) (T : Int) e r kk _).mono ?_
        rintro _ _ ⟨rfl, rfl⟩
        obtain ⟨W4, hW4⟩ : ∃ W', W' = W3.alloc (.cells (boxC F T e r kk) 27) := ⟨_, rfl⟩
        have hb4 : Below W3.heap.size W3 W4 := by rw [hW4]; exact below_alloc (Below.refl _ _) _
        have HQ4 := Lib.hid (show Blk W4 W3.heap.size 27 (boxC F T e r kk) by rw [hW4]; exact Blk.new ..)
        have HI4 := Lib.hid (HI3.out.later hb4)
        have HM4 := Lib.hid (HM3.out.later hb4)
        have HB4 := Lib.hid (below_step HBW.out hb4)
        rw [← hW4]
        clear hW4 hb4 HI3 HM3 HB3 HI2 HM2 HBW c0 c1 c2 c3 c4 p2 i2
        obtain ⟨q, hq⟩ : ∃ q, W3.heap.size = q := ⟨_, rfl⟩
        rw [hq] at HQ4 ⊢
        clear hq
        have HDB := Lib.hid (show ∀ D ∈ Ds, D < W4.heap.size from fun D hD => (Array.getElem?_eq_some_iff.1 (HM4.out.ds D hD)).1)
        go_wp2_with fail
        refine (wpIn_wide (n := n)).1 ?_
        refine wpIn_rangeFunc_ownH (F := Fence.wide) rfl (by omega) (gf := 35) (lb := #[.pointer (some ⟨q, 0, none⟩)]) rfl trivial (enters_of Try.func35 (by kernel_rfl) rfl)
          (w0 := W4) (encs := encT (F := F) (T := T)) (Kp := KpQ w.heap.size q) (S := TDone) (Sp := fun _ => True) (N := T - F)
          (fun lp J Jx W' hW' hJ hJx hY h0 => (slots1_in (n - 1) lp q w F T e r kk HFT.out.1 (by have := HFT.out.2; omega) J Jx hY W' (below_step HM4.out.bel hW') (HQ4.out.later hW') h0).mono (fun e W4 h => ⟨h.1, h.2.imp (fun h => h) (fun ⟨p, hp⟩ => ⟨p, trivial, hp⟩)⟩))
          (fun h k => h.trans k)
          (fun W' lb ob ob' h1 h2 _ _ => ⟨(Below.refl _ _).grown (grownBy_putObj' W' lb ob') (by have := (Array.getElem?_eq_some_iff.1 h2).1; have := HM4.out.bel.size; omega) (fun k e => by cases e; have := HM4.out.bel.size; omega), World.putObj_heap_other (by have := HQ4.out.lt; omega)⟩)
          (Below.refl _ _) (fun _ => rfl)
          (fun pre W' => S5 w W' w.heap.size (w.heap.size + 1) M9 MB RB (some ⟨b, off, none⟩) J.length cj S.length (.slice (some ⟨b2, off2, none⟩) cl.length k1) (.slice o2 tl.length k2) tl rm r i IB q (boxC F T e r kk) Ds pre)
          (fun c pre W' => False)
          (fun pre A B row hs hg hr => hs.turn HDB.out HM4.out.bel.size hg hr)
          (fun c pre A B row hs hg hr => hs)
          ⟨rm, HM4.out, ⟨hrm1.1, by show rm ≤ rm + 1000 * 0; omega⟩, fun _ => by show rm = rm + 0; omega, HI4.out, HQ4.out⟩
          (fun t a' W' => a' = ckB (some ⟨b2, off2, none⟩) cl.length k1 w.heap.size M9 RB IB t.1 (ND + e) (.int .i64 (k : Nat)) (fun i => a'.tmps.getD i undef))
          (fun t a' _ A B row hs hg hr => hs)
          ?assign ?body ?done ?stop
        case assign =>
          rintro lp pre t W' K hI hK
          have HK := Lib.hid hK
          have HI := Lib.hid hI
          clear hK hI
          gi_wp2
          exact HK.out _ _ (KeepsFrom.refl _ _) ⟨Below.refl _ _, rfl⟩ HI.out rfl
        case body =>
          rintro lp pre t a' W' hlp hrec ⟨rx, h1, h2, h3, h4, h5⟩ ha hpl
          obtain ⟨u2, ha⟩ : ∃ u2, a' = ckB (some ⟨b2, off2, none⟩) cl.length k1 w.heap.size M9 RB IB t.1 (ND + e) (.int .i64 (k : Nat)) u2 := ⟨_, ha⟩
          subst ha
          unfold ckB
          have HM4 := Lib.hid h1
          have HI4 := Lib.hid h4
          have HQ5 := Lib.hid h5
          have HR3 := Lib.hid h3
          have hft := HFT.out
          have hrx : 0 ≤ rx ∧ rx ≤ 500000 := by omega
          have hrx2 := h2
          have ht1 := t.2.1
          have ht2 := t.2.2
          have hpl1 : (pre ++ [t]).length = pre.length + 1 := by simp
          have HPL1 := Lib.hid hpl1
          have m0 : W'.cell? ⟨MB, t.1, none⟩ = some (.bool (decide (t.1 ∈ tl))) := (HM4.out.mb.cell _).trans ((boolsC_get (by rw [markL_len]; omega)).trans (by rw [markL_get (by omega)]))
          have n0 := HM4.out.m9.cell 0
          have HNX : Hid (∀ y : Int, y = (if decide (t.1 ∈ tl) = true then 0 else r) → (pre ++ [t]).map (·.1) = List.range' F (pre ++ [t]).length → rx + y = rm + sumN (pre ++ [t]).length (outG tl F r)) := Lib.hid (fun y hy hp => by
            have hp2 := range'_pre hp
            rw [HPL1.out]
            show rx + y = rm + (sumN pre.length (outG tl F r) + outG tl F r pre.length)
            rw [HR3.out hp2.1, hy, hp2.2]
            unfold outG
            omega)
          clear h1 h2 h3 h4 h5 hlp hrec
          have z1 : (0 : Int) ≤ ((t.1 : Nat) : Int) := by omega
          have z2 : ((t.1 : Nat) : Int) < (S.length : Int) := by omega
          cases hc : decide (t.1 ∈ tl) with
          | true =>
            rw [hc] at m0 HNX
            clear hc
            have hend : KeepsFrom W4.heap.size W' W' ∧ KpQ w.heap.size q W' W' ∧ S5 w W' w.heap.size (w.heap.size + 1) M9 MB RB (some ⟨b, off, none⟩) J.length cj S.length (.slice (some ⟨b2, off2, none⟩) cl.length k1) (.slice o2 tl.length k2) tl rm r i IB q (boxC F T e r kk) Ds (pre ++ [t]) :=
              ⟨KeepsFrom.refl _ _, ⟨Below.refl _ _, rfl⟩, rx, HM4.out, by rw [HPL1.out]; omega, fun hp => by have := HNX.out 0 rfl hp; omega, HI4.out, HQ5.out⟩
            have HEN := Lib.hid hend
            clear hend
            gi_wp2
            exact HEN.out
          | false =>
            rw [hc] at m0 HNX
            clear hc
            gi_wp2_with fail
            refine wpIn_region_mask [6, 7, 8] [true, true, true, true, true, true, false, false, false] (fun w'' => w''.cell? ⟨RB, 0, none⟩ = some (.int .i64 rx) ∧ w''.cell? ⟨w.heap.size, 0, none⟩ = some (.slice (some ⟨b, off, none⟩) J.length cj) ∧ w''.cell? ⟨IB, 0, none⟩ = some (.int .i64 (i : Nat)) ∧ w''.cell? ⟨b, off + i * 5 + 3, none⟩ = some (.int .i64 r)) mixed (by kernel_rfl) (by kernel_rfl) (by rintro ⟨_, _, h⟩; exact h) ?_
            intro KR hR
            have HR := Lib.hid hR
            clear hR
            simp only [marked]
            apply wpM_val rfl
            · (intro w' hw'; obtain ⟨c0, c1, c2, c3⟩ := hw'; go_simp; with_reducible rfl)
            simp only [Act.put, List.setIfInBounds_toArray, List.set_cons_zero, List.set_cons_succ]
            apply wpM_val rfl
            · (intro w' hw'; obtain ⟨c0, c1, c2, c3⟩ := hw'; go_simp; with_reducible rfl)
            simp only [Act.put, List.setIfInBounds_toArray, List.set_cons_zero, List.set_cons_succ]
            apply wpM_val rfl
            · (intro w' hw'; obtain ⟨c0, c1, c2, c3⟩ := hw'; go_simp; with_reducible rfl)
            simp only [Act.put, List.setIfInBounds_toArray, List.set_cons_zero, List.set_cons_succ]
            apply wpM_val rfl
            · (intro w' hw'; go_simp; with_reducible rfl)
            simp only [Act.put, List.setIfInBounds_toArray, List.set_cons_zero, List.set_cons_succ]
            apply wpM_val rfl
            · (intro w' hw'; go_simp; with_reducible rfl)
            simp only [Act.put, List.setIfInBounds_toArray, List.set_cons_zero, List.set_cons_succ]
            apply wpM_val rfl
            · (intro w' hw'; obtain ⟨c0, c1, c2, c3⟩ := hw'; go_simp; with_reducible rfl)
            simp only [Act.put, List.setIfInBounds_toArray, List.set_cons_zero, List.set_cons_succ]
            refine wpM_nil (HR.out _ ?_)
            clear HR
            have HJX := Lib.hid (fun (w'' : World) (hb : Below W'.heap.size W' w'') => show w''.cell? ⟨RB, 0, none⟩ = some (.int .i64 rx) ∧ w''.cell? ⟨w.heap.size, 0, none⟩ = some (.slice (some ⟨b, off, none⟩) J.length cj) ∧ w''.cell? ⟨IB, 0, none⟩ = some (.int .i64 (i : Nat)) ∧ w''.cell? ⟨b, off + i * 5 + 3, none⟩ = some (.int .i64 r) from ⟨(HM4.out.later hb).rb.cell 0, (HM4.out.later hb).p.cell 0, (HI4.out.later hb).cell 0, cell_kept (HM4.out.later hb).bel HW3.out⟩)
            obtain ⟨W6, hW6⟩ : ∃ W, W = W'.drew := ⟨_, rfl⟩
            have hb6 : Below W'.heap.size W' W6 := by rw [hW6]; exact (Below.refl _ _).drew
            rw [← hW6]
            clear hW6
            refine wpC_run rfl rfl (HJX.out W6 hb6) (v := .slice (some ⟨W6.heap.size, 0, none⟩) 2 2) (w' := W6.alloc (.cells #[.int .i64 rx, .int .i64 r] 3)) (by go_simp) ?_
            simp only [Act.put, List.setIfInBounds_toArray]
            have HSM := Lib.hid (sum2_any W6.heap.size rx r (W6.alloc (.cells #[.int .i64 rx, .int .i64 r] 3)) (Blk.new ..) (by omega) (by omega))
            have hb7 := below_alloc hb6 (.cells #[.int .i64 rx, .int .i64 r] 3)
            refine wpC_call (f := 19) (args := #[.slice (some ⟨W6.heap.size, 0, none⟩) 2 2]) (w' := W6.alloc (.cells #[.int .i64 rx, .int .i64 r] 3)) rfl rfl (HJX.out _ hb7) (by go_simp) ?_
            refine HSM.out.mono ?_
            rintro _ W8 ⟨rfl, hb8⟩
            refine ⟨_, rfl, ?_⟩
            simp only [Act.put]
            have hb9 := below_step hb7 hb8
            clear HSM hb6 hb7 hb8
            have HM8 := Lib.hid (HM4.out.later hb9)
            have HJ8 := Lib.hid (HJX.out W8 hb9)
            have HBL := Lib.hid hb9
            clear hb9
            have r8 := HM8.out.rb.cell 0
            have f8 := HM8.out.rb.frozen 0
            refine wpC_skipN rfl rfl rfl HJ8.out (w' := W8.setCell ⟨RB, 0, none⟩ (.int .i64 (rx + r))) (by go_simp) ?_
            refine wpC_nil ?_
            have HM9 := Lib.hid (HM8.out.setR (rx + r))
            clear r8 f8
            have hbw := HBL.out
            have hq9 : Blk (W8.setCell ⟨RB, 0, none⟩ (.int .i64 (rx + r))) q 27 (boxC F T e r kk) := (HQ5.out.later hbw).other (p := ⟨RB, 0, none⟩) (Blk.ne (HQ5.out.later hbw) HM8.out.rb (by decide)) _
            have hend : KeepsFrom W4.heap.size W' (W8.setCell ⟨RB, 0, none⟩ (.int .i64 (rx + r))) ∧ KpQ w.heap.size q W' (W8.setCell ⟨RB, 0, none⟩ (.int .i64 (rx + r))) ∧ S5 w (W8.setCell ⟨RB, 0, none⟩ (.int .i64 (rx + r))) w.heap.size (w.heap.size + 1) M9 MB RB (some ⟨b, off, none⟩) J.length cj S.length (.slice (some ⟨b2, off2, none⟩) cl.length k1) (.slice o2 tl.length k2) tl rm r i IB q (boxC F T e r kk) Ds (pre ++ [t]) :=
              ⟨((keeps_agr (Agr.of_below (S := []) hbw) (fun _ h => by cases h)).trans (keeps_agr ((Agr.refl W8 [RB]).set (List.mem_singleton.2 rfl)) (cells_of HM8.out.rb))).from _, ⟨(hbw.mono HM4.out.bel.size).setCell HM4.out.low _, hq9.trans HQ5.out.symm⟩, rx + r, HM9.out, by rw [HPL1.out]; omega, fun hp => HNX.out r rfl hp, (HI4.out.later hbw).other (p := ⟨RB, 0, none⟩) HNI.out _, hq9⟩
            exact hend
        case done =>
          rintro D xs W' hD hS ⟨rx, h1, h2, h3, h4, h5⟩ hmk
          have hnD : D ∉ Ds := fun hm => by have := HDB.out D hm; omega
          have hS2 : xs.map (·.1) = List.range' F (T - F) := hS
          have hxl : xs.length = T - F := by
            have := congrArg List.length hS2
            rwa [List.length_map, List.length_range'] at this
          have HM9 := Lib.hid (h1.mark hmk)
          have HR9 : Hid (rx = R0 + sumF (cl.take (k + 1)) (outJ J tl)) := Lib.hid (by
            rw [HSO.out, HOJ.out, h3 (by rw [hxl]; exact hS2), hxl, HRM.out, Int.add_assoc])
          have HDN9 := Lib.hid (show (D :: Ds).Nodup from List.nodup_cons.2 ⟨hnD, HDN.out⟩)
          have HDL9 := Lib.hid (show ∀ D' ∈ D :: Ds, w.heap.size ≤ D' from fun D' hD' => by
            rcases List.mem_cons.1 hD' with e | e
            · rw [e]; exact Nat.le_trans HM4.out.bel.size hD
            · exact HDL.out D' e)
          clear h1 h2 h3 h4 h5 hS hS2 hxl hmk hnD hD HM4 HI4 HQ4
          go_wp2
          refine ⟨?_, meas_lt hlt⟩
          exact ⟨k + 1, D :: Ds, rx, hlt, by rw [HSU.out]; rfl, HM9.out, HR9.out, HDN9.out, HDL9.out⟩
        case stop =>
          rintro D c pre W' hD _ hf
          exact hf.elim
      · obtain rfl : k = cl.length := by omega
        clear hlt
        rw [List.take_length] at HRM ⊢
        gi_wp2
        exact HENDH.out _ Ds W rm rfl HM.out HRM.out HDN.out HDL.out
end Go.Proofs.Ythgkfdhkmkbioaa
