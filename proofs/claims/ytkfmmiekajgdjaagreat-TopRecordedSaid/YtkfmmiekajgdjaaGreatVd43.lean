/- Package bill: stretches. -/
import Derived.Test.YtkfmmiekajgdjaaGreatVc43
namespace Go.Proofs.YtkfmmiekajgdjaaGreat
open Go.RowKit Go.Shelf
attribute [local go_sem] Oper.semAt_some

theorem minutes_any (g : Nat) (f t : Int) (w : World) : Calls Tryz.prog 114 #[.pointer (some ⟨g, 0, none⟩), .int .i64 f, .int .i64 t] w fun e w' => e = .returned (.func (.func 120) #[] #[.pointer (some ⟨w.heap.size + 1, 0, none⟩), .pointer (some ⟨w.heap.size + 2, 0, none⟩), .pointer (some ⟨w.heap.size, 0, none⟩)]) ∧ w' = ((w.alloc (.cells #[.pointer (some ⟨g, 0, none⟩)] 146)).alloc (.cells #[.int .i64 f] 3)).alloc (.cells #[.int .i64 t] 3) := by
  go_enter Tryz.func114, Tryz.ntmps114
  go_wp2
  go_ret
  exact ⟨rfl, rfl⟩
theorem minutes_stops (n q g : Nat) (a : Art) (c : ClA) (s : SesA) (f t : Int) (w0 w : World) (N : Nat) (hN : t = f + N) (f0 : 0 ≤ f) (t1 : t ≤ 52560000) (hbl : BilM w0 g a c s) (ha : artA a = true) (hd : datA c.off c.chg c.hol = true) (hb : Below w0.heap.size w0 w) (hq : MBox w q g f t) :
    SeqStopsK Fence.wide n Tryz.prog 120 #[.pointer (some ⟨q + 1, 0, none⟩), .pointer (some ⟨q + 2, 0, none⟩), .pointer (some ⟨q, 0, none⟩)] encM (KpM w0.heap.size q) (MDone a c f N) (MStop a c f N) N w :=
  fun lp J Jx W hW hJ _ hY h0 => minutes1_in n lp q g a c s f t w0 N hN f0 t1 hbl ha hd J Jx hY W (below_step hb hW) hJ (hq.later hW) h0
/-- The count of a stretch. -/
structure StSt (w W : World) (k : Int) : Prop where
  bg : Boxed W w.heap.size 3 (.int .i64 k)
  bel : Below w.heap.size w W
  sz : w.heap.size + 3 < W.heap.size
theorem StSt.turn {w W W' : World} {k : Int} {B : Nat} (h : StSt w W k) {row : Option Nat} (hB : w.heap.size ≤ B) (hg : W.grownBy W' row) (hr : ∀ r, row = some r → B ≤ r ∧ ∃ o : Obj, W.heap[r]? = some o ∧ o.isCells = false) : StSt w W' k :=
  ⟨boxed_turn h.bg hg fun r e => (hr r e).2, h.bel.grown hg h.bel.size (fun k e => Nat.le_trans hB (hr k e).1), Nat.lt_of_lt_of_le h.sz hg.size⟩
theorem StSt.set {w W : World} {k : Int} (h : StSt w W k) (k' : Int) : StSt w (W.setCell ⟨w.heap.size, 0, none⟩ (.int .i64 k')) k' :=
  ⟨h.bg.set _, h.bel.setCell (Nat.le_refl _) _, by rw [World.size_setCell]; exact h.sz⟩
set_option maxRecDepth 100000 in
set_option maxHeartbeats 16000000 in
theorem stretch_any (w : World) (g : Nat) (a : Art) (c : ClA) (s : SesA) (f t : Int) (N : Nat) (h : BilM w g a c s) (ha : artA a = true) (hk : a.k = 3 ∨ a.k = 4) (hd : datA c.off c.chg c.hol = true) (hN : t = f + N) (f0 : 0 ≤ f) (t1 : t ≤ 52560000) (hN2 : N ≤ 2880) : Calls Tryz.prog 104 #[.pointer (some ⟨g, 0, none⟩), .int .i64 f, .int .i64 t] w (CostOut (startedA a c f t) w) := by
  have HX := Lib.hid h
  have HP := Lib.hid (art_price ha)
  have HT := Lib.hid (art_time ha hk)
  have HY := Lib.hid (fun (w' : World) V => cost_yes (V := V) (w := w) (w' := w'))
  have HN := Lib.hid (fun (w' : World) V => cost_no (V := V) (w := w) (w' := w'))
  have HCN := Lib.hid (cntA_le a c f N)
  have HNN := Lib.hid hN
  clear h hk hN
  obtain ⟨V, hV⟩ : ∃ V, startedA a c f t = V := ⟨_, rfl⟩
  rw [hV]
  have HV := Lib.hid (show a.p * ((max 0 ((cntA a c f N : Nat) - a.r : Int) + a.u - 1) / a.u) = V by rw [← hV]; unfold startedA; rw [show (t - f).toNat = N by have := HNN.out; omega])
  clear hV
  obtain ⟨OUT, hO⟩ : ∃ O, CostOut V w = O := ⟨_, rfl⟩
  replace HY := Lib.hid (fun (w' : World) => HY.out w' V)
  replace HN := Lib.hid (fun (w' : World) => HN.out w' V)
  rw [hO] at HY HN ⊢
  clear hO
  obtain ⟨n, hn⟩ : ∃ n : Nat, 6 ≤ n := ⟨8, by omega⟩
  refine (callsIn_wide (n := n)).1 ?_
  refine callsIn_of_wp_marks Tryz.func104 rfl trivial ?_ rfl
  simp only [Tryz.ntmps104, List.size_toArray, List.length_cons, List.length_nil, Nat.reduceAdd, Nat.reduceSub, Array.replicate_succ, Array.replicate_zero, List.push_toArray, List.append_toArray, List.nil_append, List.cons_append]
  gi_wp2_with fail
  refine inCall (minutes_any g f t _) ?_
  rintro e w' ⟨rfl, rfl⟩
  gi_wp2_with fail
  obtain ⟨wa, hwa⟩ : ∃ W, W = w.alloc (.cells #[.int .i64 0] 3) := ⟨_, rfl⟩
  obtain ⟨wb, hwb⟩ : ∃ W, W = wa.alloc (.cells #[.pointer (some ⟨g, 0, none⟩)] 146) := ⟨_, rfl⟩
  obtain ⟨wd, hwd⟩ : ∃ W, W = wb.alloc (.cells #[.int .i64 f] 3) := ⟨_, rfl⟩
  obtain ⟨W0, hW0⟩ : ∃ W, W = wd.alloc (.cells #[.int .i64 t] 3) := ⟨_, rfl⟩
  have hsa : wa.heap.size = w.heap.size + 1 := by rw [hwa, World.size_alloc]
  have hsb : wb.heap.size = w.heap.size + 1 + 1 := by rw [hwb, World.size_alloc, hsa]
  have hsd : wd.heap.size = w.heap.size + 1 + 2 := by rw [hwd, World.size_alloc, hsb]
  have hs0 : W0.heap.size = w.heap.size + 4 := by rw [hW0, World.size_alloc, hsd]
  have HST0 : Hid (StSt w W0 0) := Lib.hid ⟨by rw [hW0, hwd, hwb, hwa]; exact (((Boxed.new w _ _).alloc _).alloc _).alloc _, by rw [hW0, hwd, hwb, hwa]; exact below_alloc (below_alloc (below_alloc (below_alloc (Below.refl _ _) _) _) _) _, by omega⟩
  have HBX : Hid (MBox W0 (w.heap.size + 1) g f t) := Lib.hid ⟨by rw [hW0, hwd]; refine Blk.alloc (Blk.alloc ?_ _) _; rw [hwb, ← hsa]; exact Blk.new _ _ _, by rw [hW0]; refine Blk.alloc ?_ _; rw [hwd, ← hsb]; exact Blk.new _ _ _, by rw [hW0, ← hsd]; exact Blk.new _ _ _⟩
  have hSW : W0 = (((w.alloc (.cells #[.int .i64 0] 3)).alloc (.cells #[.pointer (some ⟨g, 0, none⟩)] 146)).alloc (.cells #[.int .i64 f] 3)).alloc (.cells #[.int .i64 t] 3) := by rw [hW0, hwd, hwb, hwa]
  rw [← hSW]
  have HSZ := Lib.hid hs0
  clear hSW hW0 hwd hwb hwa hsa hsb hsd hs0
  refine wpIn_rangeFunc_ownH (F := Fence.wide) rfl (by omega) (gf := 120) (lb := #[.pointer (some ⟨w.heap.size + 1 + 1, 0, none⟩), .pointer (some ⟨w.heap.size + 1 + 2, 0, none⟩), .pointer (some ⟨w.heap.size + 1, 0, none⟩)]) rfl trivial (enters_of Tryz.func120 (by kernel_rfl) rfl)
    (minutes_stops (n - 1) (w.heap.size + 1) g a c s f t w W0 N HNN.out f0 t1 HX.out ha hd HST0.out.bel HBX.out) (fun h k => h.trans k)
    (fun W lb ob ob' h1 h2 _ _ => ⟨(Below.refl _ _).grown (grownBy_putObj' W lb ob') (by have := (Array.getElem?_eq_some_iff.1 h2).1; have := HSZ.out; omega) (fun k e => by cases e; have := HSZ.out; omega), World.putObj_heap_other (by have := HSZ.out; omega), World.putObj_heap_other (by have := HSZ.out; omega), World.putObj_heap_other (by have := HSZ.out; omega)⟩)
    (Below.refl _ _) (fun _ => rfl)
    (fun pre W => StSt w W (pre.length : Nat))
    (fun _ _ _ => False)
    (fun s A B row hs hg hr => hs.turn (by have := HSZ.out; omega) hg hr)
    (fun c s A B row hs hg hr => hs)
    HST0.out
    (fun x a' W => a' = { tmps := #[.pointer (some ⟨g, 0, none⟩), .int .i64 f, .int .i64 t, undef, undef, undef, .int .i64 0, .pointer (some ⟨w.heap.size, 0, none⟩), .pointer (some ⟨g, 0, none⟩), .int .i64 f, .int .i64 t, .func (.func 120) #[] #[.pointer (some ⟨w.heap.size + 1 + 1, 0, none⟩), .pointer (some ⟨w.heap.size + 1 + 2, 0, none⟩), .pointer (some ⟨w.heap.size + 1, 0, none⟩)], .int .i64 x, undef, undef, undef, undef, undef, undef, undef, undef, undef, undef, undef, undef, undef, undef, undef, undef, undef, undef, undef, undef, undef, undef, undef, undef], defers := [] })
    (fun _ _ _ _ _ _ hs _ _ => hs)
    ?assign ?body ?done ?stop
  case assign =>
    rintro lp pre x W K hi hK
    have HK := Lib.hid hK
    clear hK
    gi_wp2
    exact HK.out _ _ (KeepsFrom.refl _ _) ⟨Below.refl _ _, rfl, rfl, rfl⟩ hi rfl
  case body =>
    rintro lp pre x a' W _ _ hst rfl hpl
    have HS := Lib.hid hst
    have cg := hst.bg.cell
    have fg := hst.bg.frozen
    clear hst
    have e1 : IntKind.i64.wrap ((pre.length : Int) + 1) = (pre.length : Int) + 1 := IntWalk.i64_in _ (by omega)
    gi_wp2
    refine ⟨(KeepsOthers.setCell _ _ _).from _, ⟨(Below.refl _ _).setCell (by dsimp only; omega) _, Below.heap_setCell _ _ _ _ (by dsimp only; omega), Below.heap_setCell _ _ _ _ (by dsimp only; omega), Below.heap_setCell _ _ _ _ (by dsimp only; omega)⟩, ?_⟩
    show StSt w _ (((pre ++ [x]).length : Nat) : Int)
    rw [show (((pre ++ [x]).length : Nat) : Int) = (pre.length : Int) + 1 by simp]
    exact HS.out.set _
  case stop =>
    rintro D c pre W _ _ h _
    exact h.elim
  case done =>
    rintro D xs W hD hxs hst hKD
    have hxl : xs.length = cntA a c f N := by rw [show xs = minL a c f N from hxs, minL_length]
    rw [hxl] at hst
    have HBE : Hid (EnBe w W D) := Lib.hid ⟨hKD, hst.bel⟩
    have hDw : w.heap.size ≤ D := by have := HSZ.out; omega
    have cg := hst.bg.cell
    clear hst hKD hxs hxl
    obtain ⟨cn, hcn⟩ : ∃ x, cntA a c f N = x := ⟨_, rfl⟩
    rw [hcn] at cg HV HCN
    clear hcn
    have HXW := Lib.hid (HX.out.later HBE.out.bel)
    have HCG := Lib.hid cg
    have hp0 := HT.out.2.2.1
    have hp1 := HT.out.2.2.2
    have hc1 := HCN.out
    have hwr : IntKind.i64.wrap ((cn : Int) - a.r) = (cn : Int) - a.r := IntWalk.i64_in _ (by omega)
    clear cg hp0 hp1 hc1
    obtain ⟨qq, hqq⟩ : ∃ x, (if a.r < (cn : Int) then (cn : Int) - a.r else 0) = x := ⟨_, rfl⟩
    have HQQ := Lib.hid (show max 0 ((cn : Int) - a.r) = qq ∧ 0 ≤ qq ∧ qq ≤ 2880 by
      have h1 := HT.out.2.2.1
      have h2 := HCN.out
      rw [← hqq]
      split <;> omega)
    rw [HQQ.out.1] at HV
    gi_wp2_with fail
    refine wpIn_wide.2 ?_
    by_cases hv : V ≤ 1000000000
    · have HVB := Lib.hid hv
      have HCC1 := Lib.hid (fun w' => started_ok a.p qq a.u w' HP.out.1 HP.out.2 HQQ.out.2.1 HQQ.out.2.2 HT.out.1 HT.out.2.1 (by rw [HV.out]; exact HVB.out))
      rw [HV.out] at HCC1
      clear hv
      refine wp_region_B 21 (fun w'' => Below W.heap.size W w'') mixed (by kernel_rfl) (below_closed W) (Below.refl _ _).drew ?_
      simp only [List.take_succ_cons, List.take_zero, List.drop_succ_cons, List.drop_zero]
      intro KR hR
      have HR := Lib.hid hR
      clear hR
      have HCC := Lib.hid (show ∀ w'', Below W.heap.size W w'' → w''.cell? ⟨g, 4, none⟩ = some (.int .i64 a.p) ∧ w''.cell? ⟨g, 5, none⟩ = some (.int .i64 a.u) ∧ w''.cell? ⟨g, 6, none⟩ = some (.int .i64 a.r) ∧ w''.cell? ⟨w.heap.size, 0, none⟩ = some (.int .i64 (cn : Nat)) from fun w'' hw => ⟨cell_kept hw (HXW.out.blk.cell 4), cell_kept hw (HXW.out.blk.cell 5), cell_kept hw (HXW.out.blk.cell 6), cell_kept hw HCG.out⟩)
      apply wpB_val rfl
      · (intro w' hw'; go_simp; with_reducible rfl)
      simp only [Act.put, List.setIfInBounds_toArray, List.set_cons_zero, List.set_cons_succ]
      apply wpB_val rfl
      · (intro w' hw'; go_simp; with_reducible rfl)
      simp only [Act.put, List.setIfInBounds_toArray, List.set_cons_zero, List.set_cons_succ]
      apply wpB_val rfl
      · (intro w' hw'; go_simp; with_reducible rfl)
      simp only [Act.put, List.setIfInBounds_toArray, List.set_cons_zero, List.set_cons_succ]
      apply wpB_val rfl
      · (intro w' hw'; go_simp; with_reducible rfl)
      simp only [Act.put, List.setIfInBounds_toArray, List.set_cons_zero, List.set_cons_succ]
      apply wpB_val rfl
      · (intro w' hw'; obtain ⟨c0, c1, c2, c3⟩ := HCC.out w' hw'; go_simp; with_reducible rfl)
      simp only [Act.put, List.setIfInBounds_toArray, List.set_cons_zero, List.set_cons_succ]
      apply wpB_val rfl
      · (intro w' hw'; obtain ⟨c0, c1, c2, c3⟩ := HCC.out w' hw'; go_simp; with_reducible rfl)
      simp only [Act.put, List.setIfInBounds_toArray, List.set_cons_zero, List.set_cons_succ]
      apply wpB_val rfl
      · (intro w' hw'; go_simp; with_reducible rfl)
      simp only [Act.put, List.setIfInBounds_toArray, List.set_cons_zero, List.set_cons_succ]
      apply wpB_val rfl
      · (intro w' hw'; go_simp; with_reducible rfl)
      simp only [Act.put, List.setIfInBounds_toArray, List.set_cons_zero, List.set_cons_succ]
      apply wpB_val rfl
      · (intro w' hw'; go_simp; with_reducible rfl)
      simp only [Act.put, List.setIfInBounds_toArray, List.set_cons_zero, List.set_cons_succ]
      apply wpB_val rfl
      · (intro w' hw'; go_simp; with_reducible rfl)
      simp only [Act.put, List.setIfInBounds_toArray, List.set_cons_zero, List.set_cons_succ]
      apply wpB_val rfl
      · (intro w' hw'; obtain ⟨c0, c1, c2, c3⟩ := HCC.out w' hw'; go_simp; with_reducible rfl)
      simp only [Act.put, List.setIfInBounds_toArray, List.set_cons_zero, List.set_cons_succ]
      apply wpB_val rfl
      · (intro w' hw'; go_simp; with_reducible rfl)
      simp only [Act.put, List.setIfInBounds_toArray, List.set_cons_zero, List.set_cons_succ]
      apply wpB_val rfl
      · (intro w' hw'; go_simp; with_reducible rfl)
      simp only [Act.put, List.setIfInBounds_toArray, List.set_cons_zero, List.set_cons_succ]
      apply wpB_val rfl
      · (intro w' hw'; go_simp; with_reducible rfl)
      simp only [Act.put, List.setIfInBounds_toArray, List.set_cons_zero, List.set_cons_succ]
      apply wpB_val rfl
      · (intro w' hw'; go_simp; with_reducible rfl)
      simp only [Act.put, List.setIfInBounds_toArray, List.set_cons_zero, List.set_cons_succ]
      apply wpB_val rfl
      · (intro w' hw'; go_simp; with_reducible rfl)
      simp only [Act.put, List.setIfInBounds_toArray, List.set_cons_zero, List.set_cons_succ]
      apply wpB_val rfl
      · (intro w' hw'; go_simp; with_reducible rfl)
      simp only [Act.put, List.setIfInBounds_toArray, List.set_cons_zero, List.set_cons_succ]
      apply wpB_val rfl
      · (intro w' hw'; obtain ⟨c0, c1, c2, c3⟩ := HCC.out w' hw'; go_simp; with_reducible rfl)
      simp only [Act.put, List.setIfInBounds_toArray, List.set_cons_zero, List.set_cons_succ]
      apply wpB_call 115 #[.int .i64 a.p, .int .i64 qq, .int .i64 a.u] rfl (v := .tuple #[.int .i64 V, .int .i64 0])
      · (intro w'; go_simp)
      · exact fun w' hw' => (HCC1.out w').mono fun _ _ h => ⟨h.2, h.1⟩
      simp only [Act.put, List.setIfInBounds_toArray, List.set_cons_zero, List.set_cons_succ]
      apply wpB_val rfl
      · (intro w' hw'; go_simp; with_reducible rfl)
      simp only [Act.put, List.setIfInBounds_toArray, List.set_cons_zero, List.set_cons_succ]
      apply wpB_val rfl
      · (intro w' hw'; go_simp; with_reducible rfl)
      simp only [Act.put, List.setIfInBounds_toArray, List.set_cons_zero, List.set_cons_succ]
      refine wpB_nil (HR.out _ (fun w2 hw2 => ?_))
      clear HR HCC
      replace HBE := Lib.hid (HBE.out.later hw2)
      clear hw2 hqq
      go_wp2_with fail
      refine (must_ok V w2).mono ?_
      rintro _ _ ⟨rfl, rfl⟩
      go_wp2
      gi_wp2
      refine ⟨by simp, .inl ⟨_, _, rfl, run_takeDeferred HBE.out.d, ?_⟩⟩
      exact ⟨_, by first | (simp [results, Tryz.results104]; done) | (simp [results, Tryz.results104]; rfl), HY.out _ (HBE.out.ends hDw) HVB.out⟩
    · have HVB := Lib.hid (show 1000000000 < V by omega)
      have HCC1 := Lib.hid (fun w' => started_no a.p qq a.u w' HP.out.1 HP.out.2 HQQ.out.2.1 HQQ.out.2.2 HT.out.1 HT.out.2.1 (by rw [HV.out]; exact HVB.out))
      clear hv
      refine wp_region_B 21 (fun w'' => Below W.heap.size W w'') mixed (by kernel_rfl) (below_closed W) (Below.refl _ _).drew ?_
      simp only [List.take_succ_cons, List.take_zero, List.drop_succ_cons, List.drop_zero]
      intro KR hR
      have HR := Lib.hid hR
      clear hR
      have HCC := Lib.hid (show ∀ w'', Below W.heap.size W w'' → w''.cell? ⟨g, 4, none⟩ = some (.int .i64 a.p) ∧ w''.cell? ⟨g, 5, none⟩ = some (.int .i64 a.u) ∧ w''.cell? ⟨g, 6, none⟩ = some (.int .i64 a.r) ∧ w''.cell? ⟨w.heap.size, 0, none⟩ = some (.int .i64 (cn : Nat)) from fun w'' hw => ⟨cell_kept hw (HXW.out.blk.cell 4), cell_kept hw (HXW.out.blk.cell 5), cell_kept hw (HXW.out.blk.cell 6), cell_kept hw HCG.out⟩)
      apply wpB_val rfl
      · (intro w' hw'; go_simp; with_reducible rfl)
      simp only [Act.put, List.setIfInBounds_toArray, List.set_cons_zero, List.set_cons_succ]
      apply wpB_val rfl
      · (intro w' hw'; go_simp; with_reducible rfl)
      simp only [Act.put, List.setIfInBounds_toArray, List.set_cons_zero, List.set_cons_succ]
      apply wpB_val rfl
      · (intro w' hw'; go_simp; with_reducible rfl)
      simp only [Act.put, List.setIfInBounds_toArray, List.set_cons_zero, List.set_cons_succ]
      apply wpB_val rfl
      · (intro w' hw'; go_simp; with_reducible rfl)
      simp only [Act.put, List.setIfInBounds_toArray, List.set_cons_zero, List.set_cons_succ]
      apply wpB_val rfl
      · (intro w' hw'; obtain ⟨c0, c1, c2, c3⟩ := HCC.out w' hw'; go_simp; with_reducible rfl)
      simp only [Act.put, List.setIfInBounds_toArray, List.set_cons_zero, List.set_cons_succ]
      apply wpB_val rfl
      · (intro w' hw'; obtain ⟨c0, c1, c2, c3⟩ := HCC.out w' hw'; go_simp; with_reducible rfl)
      simp only [Act.put, List.setIfInBounds_toArray, List.set_cons_zero, List.set_cons_succ]
      apply wpB_val rfl
      · (intro w' hw'; go_simp; with_reducible rfl)
      simp only [Act.put, List.setIfInBounds_toArray, List.set_cons_zero, List.set_cons_succ]
      apply wpB_val rfl
      · (intro w' hw'; go_simp; with_reducible rfl)
      simp only [Act.put, List.setIfInBounds_toArray, List.set_cons_zero, List.set_cons_succ]
      apply wpB_val rfl
      · (intro w' hw'; go_simp; with_reducible rfl)
      simp only [Act.put, List.setIfInBounds_toArray, List.set_cons_zero, List.set_cons_succ]
      apply wpB_val rfl
      · (intro w' hw'; go_simp; with_reducible rfl)
      simp only [Act.put, List.setIfInBounds_toArray, List.set_cons_zero, List.set_cons_succ]
      apply wpB_val rfl
      · (intro w' hw'; obtain ⟨c0, c1, c2, c3⟩ := HCC.out w' hw'; go_simp; with_reducible rfl)
      simp only [Act.put, List.setIfInBounds_toArray, List.set_cons_zero, List.set_cons_succ]
      apply wpB_val rfl
      · (intro w' hw'; go_simp; with_reducible rfl)
      simp only [Act.put, List.setIfInBounds_toArray, List.set_cons_zero, List.set_cons_succ]
      apply wpB_val rfl
      · (intro w' hw'; go_simp; with_reducible rfl)
      simp only [Act.put, List.setIfInBounds_toArray, List.set_cons_zero, List.set_cons_succ]
      apply wpB_val rfl
      · (intro w' hw'; go_simp; with_reducible rfl)
      simp only [Act.put, List.setIfInBounds_toArray, List.set_cons_zero, List.set_cons_succ]
      apply wpB_val rfl
      · (intro w' hw'; go_simp; with_reducible rfl)
      simp only [Act.put, List.setIfInBounds_toArray, List.set_cons_zero, List.set_cons_succ]
      apply wpB_val rfl
      · (intro w' hw'; go_simp; with_reducible rfl)
      simp only [Act.put, List.setIfInBounds_toArray, List.set_cons_zero, List.set_cons_succ]
      apply wpB_val rfl
      · (intro w' hw'; go_simp; with_reducible rfl)
      simp only [Act.put, List.setIfInBounds_toArray, List.set_cons_zero, List.set_cons_succ]
      apply wpB_val rfl
      · (intro w' hw'; obtain ⟨c0, c1, c2, c3⟩ := HCC.out w' hw'; go_simp; with_reducible rfl)
      simp only [Act.put, List.setIfInBounds_toArray, List.set_cons_zero, List.set_cons_succ]
      apply wpB_call 115 #[.int .i64 a.p, .int .i64 qq, .int .i64 a.u] rfl (v := .tuple #[.int .i64 0, .int .i64 3])
      · (intro w'; go_simp)
      · exact fun w' hw' => (HCC1.out w').mono fun _ _ h => ⟨h.2, h.1⟩
      simp only [Act.put, List.setIfInBounds_toArray, List.set_cons_zero, List.set_cons_succ]
      apply wpB_val rfl
      · (intro w' hw'; go_simp; with_reducible rfl)
      simp only [Act.put, List.setIfInBounds_toArray, List.set_cons_zero, List.set_cons_succ]
      apply wpB_val rfl
      · (intro w' hw'; go_simp; with_reducible rfl)
      simp only [Act.put, List.setIfInBounds_toArray, List.set_cons_zero, List.set_cons_succ]
      refine wpB_nil (HR.out _ (fun w2 hw2 => ?_))
      clear HR HCC
      replace HBE := Lib.hid (HBE.out.later hw2)
      clear hw2 hqq
      go_wp2_with fail
      refine (must_no 0 3 w2 (by decide)).mono ?_
      rintro _ _ ⟨rfl, rfl⟩
      go_wp2
      gi_wp2
      refine ⟨by simp, .inl ⟨_, _, rfl, run_takeDeferred HBE.out.d, ?_⟩⟩
      exact HN.out _ (HBE.out.ends hDw) HVB.out
set_option maxRecDepth 100000 in
set_option maxHeartbeats 8000000 in
theorem time_any (w : World) (g : Nat) (a : Art) (c : ClA) (s : SesA) (h : BilM w g a c s) (ha : artA a = true) (hk : a.k = 3) (hd : datA c.off c.chg c.hol = true) (hs : SesOk s) : Calls Tryz.prog 87 #[.pointer (some ⟨g, 0, none⟩)] w (CostOut (startedA a c s.f s.t) w) := by
  have HX := Lib.hid h
  have HC := Lib.hid (fun w' (hb : Below w.heap.size w w') => stretch_any w' g a c s s.f s.t (s.t - s.f).toNat (h.later hb) ha (by omega) hd (by have := hs.fe; have := hs.et; have := hs.ft; omega) (by have := hs.f0; have := hs.fe; omega) hs.t1 (by have := hs.fe; have := hs.len; omega))
  have HS := Lib.hid (fun (w1 w' : World) (hb : Below w.heap.size w w1) V e (h : CostOut V w1 e w') => show CostOut V w e w' from ⟨below_step hb h.1, h.2⟩)
  clear h ha hk hd hs
  obtain ⟨V, hV⟩ : ∃ V, startedA a c s.f s.t = V := ⟨_, rfl⟩
  rw [hV] at HC ⊢
  clear hV
  obtain ⟨OUT, hO⟩ : ∃ O, CostOut V w = O := ⟨_, rfl⟩
  replace HS := Lib.hid (fun w1 w' hb => HS.out w1 w' hb V)
  rw [hO] at HS ⊢
  clear hO
  go_enter Tryz.func87, Tryz.ntmps87
  go_upto_region 1 with (fail)
  refine wp_region_B 11 (fun w'' => Below w.heap.size w w'') mixed (by kernel_rfl) (below_closed w) (Below.refl _ _).drew ?_
  simp only [List.take_succ_cons, List.take_zero, List.drop_succ_cons, List.drop_zero]
  intro KR hR
  have HR := Lib.hid hR
  clear hR
  have HCC := Lib.hid (show ∀ w'', Below w.heap.size w w'' → w''.cell? ⟨g, 10, none⟩ = some (.int .i64 s.f) ∧ w''.cell? ⟨g, 11, none⟩ = some (.int .i64 s.t) from fun w'' hw => ⟨cell_kept hw (HX.out.blk.cell 10), cell_kept hw (HX.out.blk.cell 11)⟩)
  apply wpB_val rfl
  · (intro w' hw'; go_simp; with_reducible rfl)
  simp only [Act.put, List.setIfInBounds_toArray, List.set_cons_zero, List.set_cons_succ]
  apply wpB_val rfl
  · (intro w' hw'; go_simp; with_reducible rfl)
  simp only [Act.put, List.setIfInBounds_toArray, List.set_cons_zero, List.set_cons_succ]
  apply wpB_val rfl
  · (intro w' hw'; go_simp; with_reducible rfl)
  simp only [Act.put, List.setIfInBounds_toArray, List.set_cons_zero, List.set_cons_succ]
  apply wpB_val rfl
  · (intro w' hw'; go_simp; with_reducible rfl)
  simp only [Act.put, List.setIfInBounds_toArray, List.set_cons_zero, List.set_cons_succ]
  apply wpB_val rfl
  · (intro w' hw'; go_simp; with_reducible rfl)
  simp only [Act.put, List.setIfInBounds_toArray, List.set_cons_zero, List.set_cons_succ]
  apply wpB_val rfl
  · (intro w' hw'; obtain ⟨c0, c1⟩ := HCC.out w' hw'; go_simp; with_reducible rfl)
  simp only [Act.put, List.setIfInBounds_toArray, List.set_cons_zero, List.set_cons_succ]
  apply wpB_val rfl
  · (intro w' hw'; go_simp; with_reducible rfl)
  simp only [Act.put, List.setIfInBounds_toArray, List.set_cons_zero, List.set_cons_succ]
  apply wpB_val rfl
  · (intro w' hw'; go_simp; with_reducible rfl)
  simp only [Act.put, List.setIfInBounds_toArray, List.set_cons_zero, List.set_cons_succ]
  apply wpB_val rfl
  · (intro w' hw'; go_simp; with_reducible rfl)
  simp only [Act.put, List.setIfInBounds_toArray, List.set_cons_zero, List.set_cons_succ]
  apply wpB_val rfl
  · (intro w' hw'; go_simp; with_reducible rfl)
  simp only [Act.put, List.setIfInBounds_toArray, List.set_cons_zero, List.set_cons_succ]
  apply wpB_val rfl
  · (intro w' hw'; obtain ⟨c0, c1⟩ := HCC.out w' hw'; go_simp; with_reducible rfl)
  simp only [Act.put, List.setIfInBounds_toArray, List.set_cons_zero, List.set_cons_succ]
  refine wpB_nil (HR.out _ (fun w2 hw2 => ?_))
  clear HR HCC
  go_wp2_with fail
  refine (HC.out w2 hw2).mono ?_
  rintro e w3 ⟨hb, ⟨hv, rfl⟩ | ⟨hv, rfl⟩⟩
  · have HO := Lib.hid (HS.out w2 w3 hw2 (.returned (.int .i64 V)) ⟨hb, .inl ⟨hv, rfl⟩⟩)
    clear hw2 hb hv HC HS
    go_wp2
    exact HO.out
  · have HO := Lib.hid (HS.out w2 w3 hw2 (.panicked [billP 3]) ⟨hb, .inr ⟨hv, rfl⟩⟩)
    clear hw2 hb hv HC HS
    go_wp2
    exact ⟨rfl, HO.out⟩
set_option maxRecDepth 100000 in
set_option maxHeartbeats 8000000 in
theorem idle_any (w : World) (g : Nat) (a : Art) (c : ClA) (s : SesA) (h : BilM w g a c s) (ha : artA a = true) (hk : a.k = 4) (hd : datA c.off c.chg c.hol = true) (hs : SesOk s) : Calls Tryz.prog 88 #[.pointer (some ⟨g, 0, none⟩)] w (CostOut (startedA a c s.e s.t) w) := by
  have HX := Lib.hid h
  have HC := Lib.hid (fun w' (hb : Below w.heap.size w w') => stretch_any w' g a c s s.e s.t (s.t - s.e).toNat (h.later hb) ha (by omega) hd (by have := hs.fe; have := hs.et; have := hs.ft; omega) (by have := hs.f0; have := hs.fe; omega) hs.t1 (by have := hs.fe; have := hs.len; omega))
  have HS := Lib.hid (fun (w1 w' : World) (hb : Below w.heap.size w w1) V e (h : CostOut V w1 e w') => show CostOut V w e w' from ⟨below_step hb h.1, h.2⟩)
  clear h ha hk hd hs
  obtain ⟨V, hV⟩ : ∃ V, startedA a c s.e s.t = V := ⟨_, rfl⟩
  rw [hV] at HC ⊢
  clear hV
  obtain ⟨OUT, hO⟩ : ∃ O, CostOut V w = O := ⟨_, rfl⟩
  replace HS := Lib.hid (fun w1 w' hb => HS.out w1 w' hb V)
  rw [hO] at HS ⊢
  clear hO
  go_enter Tryz.func88, Tryz.ntmps88
  go_upto_region 1 with (fail)
  refine wp_region_B 11 (fun w'' => Below w.heap.size w w'') mixed (by kernel_rfl) (below_closed w) (Below.refl _ _).drew ?_
  simp only [List.take_succ_cons, List.take_zero, List.drop_succ_cons, List.drop_zero]
  intro KR hR
  have HR := Lib.hid hR
  clear hR
  have HCC := Lib.hid (show ∀ w'', Below w.heap.size w w'' → w''.cell? ⟨g, 12, none⟩ = some (.int .i64 s.e) ∧ w''.cell? ⟨g, 11, none⟩ = some (.int .i64 s.t) from fun w'' hw => ⟨cell_kept hw (HX.out.blk.cell 12), cell_kept hw (HX.out.blk.cell 11)⟩)
  apply wpB_val rfl
  · (intro w' hw'; go_simp; with_reducible rfl)
  simp only [Act.put, List.setIfInBounds_toArray, List.set_cons_zero, List.set_cons_succ]
  apply wpB_val rfl
  · (intro w' hw'; go_simp; with_reducible rfl)
  simp only [Act.put, List.setIfInBounds_toArray, List.set_cons_zero, List.set_cons_succ]
  apply wpB_val rfl
  · (intro w' hw'; go_simp; with_reducible rfl)
  simp only [Act.put, List.setIfInBounds_toArray, List.set_cons_zero, List.set_cons_succ]
  apply wpB_val rfl
  · (intro w' hw'; go_simp; with_reducible rfl)
  simp only [Act.put, List.setIfInBounds_toArray, List.set_cons_zero, List.set_cons_succ]
  apply wpB_val rfl
  · (intro w' hw'; go_simp; with_reducible rfl)
  simp only [Act.put, List.setIfInBounds_toArray, List.set_cons_zero, List.set_cons_succ]
  apply wpB_val rfl
  · (intro w' hw'; obtain ⟨c0, c1⟩ := HCC.out w' hw'; go_simp; with_reducible rfl)
  simp only [Act.put, List.setIfInBounds_toArray, List.set_cons_zero, List.set_cons_succ]
  apply wpB_val rfl
  · (intro w' hw'; go_simp; with_reducible rfl)
  simp only [Act.put, List.setIfInBounds_toArray, List.set_cons_zero, List.set_cons_succ]
  apply wpB_val rfl
  · (intro w' hw'; go_simp; with_reducible rfl)
  simp only [Act.put, List.setIfInBounds_toArray, List.set_cons_zero, List.set_cons_succ]
  apply wpB_val rfl
  · (intro w' hw'; go_simp; with_reducible rfl)
  simp only [Act.put, List.setIfInBounds_toArray, List.set_cons_zero, List.set_cons_succ]
  apply wpB_val rfl
  · (intro w' hw'; go_simp; with_reducible rfl)
  simp only [Act.put, List.setIfInBounds_toArray, List.set_cons_zero, List.set_cons_succ]
  apply wpB_val rfl
  · (intro w' hw'; obtain ⟨c0, c1⟩ := HCC.out w' hw'; go_simp; with_reducible rfl)
  simp only [Act.put, List.setIfInBounds_toArray, List.set_cons_zero, List.set_cons_succ]
  refine wpB_nil (HR.out _ (fun w2 hw2 => ?_))
  clear HR HCC
  go_wp2_with fail
  refine (HC.out w2 hw2).mono ?_
  rintro e w3 ⟨hb, ⟨hv, rfl⟩ | ⟨hv, rfl⟩⟩
  · have HO := Lib.hid (HS.out w2 w3 hw2 (.returned (.int .i64 V)) ⟨hb, .inl ⟨hv, rfl⟩⟩)
    clear hw2 hb hv HC HS
    go_wp2
    exact HO.out
  · have HO := Lib.hid (HS.out w2 w3 hw2 (.panicked [billP 3]) ⟨hb, .inr ⟨hv, rfl⟩⟩)
    clear hw2 hb hv HC HS
    go_wp2
    exact ⟨rfl, HO.out⟩
set_option maxHeartbeats 4000000 in
theorem costs_at (w : World) (g : Nat) (k : Int) (F : Nat) (hc : w.cell? ⟨g, 0, none⟩ = some (.int .i64 k)) (hk : (k = 1 ∧ F = 85) ∨ (k = 2 ∧ F = 86) ∨ (k = 3 ∧ F = 87) ∨ (k = 4 ∧ F = 88)) : Calls Tryz.prog 68 #[.pointer (some ⟨g, 0, none⟩)] w (fun e w' => e = .returned (.func (.func F) #[.pointer (some ⟨g, 0, none⟩)] #[]) ∧ w = w') := by
  have hmf : ∀ (fn : Fn) (first cap : Array Value) (w : World), (Instr.makeFunc fn first cap).run Tryz.prog w = .ok (.func fn first cap) w := fun _ _ _ _ => rfl
  rcases hk with ⟨rfl, rfl⟩ | ⟨rfl, rfl⟩ | ⟨rfl, rfl⟩ | ⟨rfl, rfl⟩
  all_goals
    go_enter Tryz.func68, Tryz.ntmps68
    go_wp2
    go_ret
    exact ⟨rfl, rfl⟩
end Go.Proofs.YtkfmmiekajgdjaaGreat