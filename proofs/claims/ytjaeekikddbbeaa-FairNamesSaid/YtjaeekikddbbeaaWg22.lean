/- Chapter 22: rowsOf. -/
import Derived.Test.YtjaeekikddbbeaaWf22
import Derived.Test.YtjaeekikddbbeaaPlainC22
import Derived.Test.YtjaeekikddbbeaaAgr
namespace Go.Proofs.Ytjaeekikddbbeaa
open Go.RowKit
attribute [local go_sem] Oper.semAt_some

@[reducible] def nilV : Value := .slice none 0 0
theorem ownsRow_kept {w w' : World} {base : Nat} {e : TypeId} {size : Nat} {v : Value} {n : Nat} {xs : List Value} {row : Option Nat} (h : w.ownsRow base e size v n xs) (hg : w.grownBy w' row) (hne : ∀ g, v.ownBlock = some g → some g ≠ row) : w'.ownsRow base e size v n xs := by
  refine ⟨h.1, ?_⟩
  rcases h.2 with h0 | ⟨g, cap, cur, rfl, hb, hbk, h3⟩
  · exact .inl h0
  · have hlt : g < w.heap.size := (Array.getElem?_eq_some_iff.1 hbk).1
    exact .inr ⟨g, cap, cur, rfl, hb, (hg.block g hlt (hne g rfl)).trans hbk, h3⟩
theorem ownsRow_set {w : World} {base : Nat} {e : TypeId} {size : Nat} {v : Value} {n : Nat} {xs : List Value} {G i : Nat} {u : Value} (h : w.ownsRow base e size v n xs) (hG : G < base) : (w.setCell ⟨G, i, none⟩ u).ownsRow base e size v n xs := by
  refine ⟨h.1, ?_⟩
  rcases h.2 with h0 | ⟨g, cap, cur, rfl, hb, hbk, h3⟩
  · exact .inl h0
  · exact .inr ⟨g, cap, cur, rfl, hb, (Below.heap_setCell w ⟨G, i, none⟩ u g (by simp only; omega)).trans hbk, h3⟩

/-- A row of rows, each the call's own. -/
structure InSt (base : Nat) (wr : World) (G : Nat) (vs : List Value) (Ls : List (List Int)) : Prop where
  lt : G < base
  bb : base ≤ wr.heap.size
  blk : Blk wr G 23 vs.toArray
  len : vs.length = Ls.length
  row : ∀ m, m < Ls.length → wr.ownsRow base 3 1 (vs.getD m nilV) (Ls.getD m []).length ((Ls.getD m []).map (Value.int .i64 ·))
  apart : ∀ m m', m < Ls.length → m' < Ls.length → m ≠ m' → ∀ g, (vs.getD m nilV).ownBlock = some g → (vs.getD m' nilV).ownBlock ≠ some g
theorem getD_set {α : Type} (l : List α) (i j : Nat) (a d : α) (h : i < l.length) : (l.set i a).getD j d = if j = i then a else l.getD j d := by
  rw [List.getD_eq_getElem?_getD, List.getD_eq_getElem?_getD, List.getElem?_set]
  by_cases e : i = j
  · subst e
    simp [h]
  · rw [if_neg e, if_neg (fun e' => e e'.symm)]
theorem InSt.later {base G : Nat} {wr w' : World} {vs : List Value} {Ls : List (List Int)} (h : InSt base wr G vs Ls) (hb : Below wr.heap.size wr w') : InSt base w' G vs Ls :=
  ⟨h.lt, Nat.le_trans h.bb hb.size, h.blk.later hb, h.len, fun m hm => ownsRow_later (h.row m hm) hb, h.apart⟩
theorem InSt.app {base G m k : Nat} {wr w' : World} {o : Obj} {vs : List Value} {Ls : List (List Int)} {v' : Value} (h : InSt base wr G vs Ls) (hm : m < Ls.length)
    (hrow : w'.ownsRow base 3 1 v' ((Ls.getD m []).length + 1) ((Ls.getD m []).map (Value.int .i64 ·) ++ [.int .i64 (k : Int)])) (hg : (wr.alloc o).grownBy w' (vs.getD m nilV).ownBlock) (hat : v'.ownBlock = (vs.getD m nilV).ownBlock ∨ v'.ownBlock = some (wr.heap.size + 1)) :
    InSt base (w'.setCell ⟨G, m, none⟩ v') G (vs.set m v') (Ls.set m (Ls.getD m [] ++ [(k : Int)])) := by
  have hmv : m < vs.length := by rw [h.len]; exact hm
  have hown : ∀ j, j < Ls.length → ∀ g, (vs.getD j nilV).ownBlock = some g → base ≤ g ∧ g < wr.heap.size := fun j hj g e => (h.row j hj).lt g e
  have hGb : Blk w' G 23 vs.toArray := by
    have h1 := h.blk.alloc o
    exact (hg.block G h1.lt (fun e => by have := (hown m hm G e.symm).1; have := h.lt; omega)).trans h1
  have hnew : ∀ j, j < Ls.length → j ≠ m → ∀ g, (vs.getD j nilV).ownBlock = some g → v'.ownBlock ≠ some g := fun j hj hjm g e e' => by
    rcases hat with h1 | h1
    · rw [h1] at e'
      exact h.apart j m hj hm hjm g e e'
    · rw [h1] at e'
      injection e' with e'
      have := (hown j hj g e).2
      omega
  refine ⟨h.lt, ?_, ?_, by simp [h.len], fun j hj => ?_, fun j j' hj hj' hne g e => ?_⟩
  · have h1 := hg.size
    rw [World.size_alloc] at h1
    have h2 := h.bb
    simp
    omega
  · have := hGb.set m v'
    simpa using this
  · rw [List.length_set] at hj
    rw [getD_set _ _ _ _ _ hmv, getD_set _ _ _ _ _ hm]
    refine ownsRow_set ?_ h.lt
    by_cases hjm : j = m
    · rw [if_pos hjm, if_pos hjm]
      simpa using hrow
    · rw [if_neg hjm, if_neg hjm]
      refine ownsRow_kept (ownsRow_later (h.row j hj) (below_alloc (Below.refl _ _) o)) hg (fun g e e' => ?_)
      exact h.apart j m hj hm hjm g e e'.symm
  · rw [List.length_set] at hj hj'
    rw [getD_set _ _ _ _ _ hmv] at e ⊢
    by_cases h1 : j = m
    · rw [if_pos h1] at e
      have h2 : j' ≠ m := fun e2 => hne (h1.trans e2.symm)
      rw [if_neg h2]
      intro e3
      exact hnew j' hj' h2 g e3 e
    · rw [if_neg h1] at e
      by_cases h2 : j' = m
      · rw [if_pos h2]
        exact hnew j hj h1 g e
      · rw [if_neg h2]
        exact h.apart j j' hj hj' hne g e

theorem InSt.blkG {base G m : Nat} {wr w' : World} {o : Obj} {vs : List Value} {Ls : List (List Int)} (h : InSt base wr G vs Ls) (hm : m < Ls.length) (hg : (wr.alloc o).grownBy w' (vs.getD m nilV).ownBlock) : Blk w' G 23 vs.toArray := by
  have h1 := h.blk.alloc o
  exact (hg.block G h1.lt (fun e => by have := ((h.row m hm).lt G e.symm).1; have := h.lt; omega)).trans h1
theorem ownsRow_shape' {W : World} {base : Nat} {e : TypeId} {size : Nat} {v : Value} {n : Nat} {xs : List Value} (h : W.ownsRow base e size v n xs) : ∃ o cap, v = .slice o n cap ∧ n ≤ cap := by
  rcases h.2 with ⟨rfl, rfl⟩ | ⟨g, cap, _, rfl, _, _, hc, _⟩
  · exact ⟨none, 0, rfl, Nat.le_refl _⟩
  · exact ⟨some ⟨g, 0, none⟩, cap, rfl, hc⟩
/-- What is in the rows after k rows, and j members of the next one. -/
def LsAt (rows : List Rw) (n k j : Nat) : List (List Int) := (List.range n).map (fun i : Nat => inTo rows k (i : Int) ++ if (i : Int) ∈ (getW rows k).ms.take j then [(k : Int)] else [])
theorem LsAt_len (rows : List Rw) (n k j : Nat) : (LsAt rows n k j).length = n := by simp [LsAt]
theorem LsAt_get {rows : List Rw} {n k j m : Nat} (h : m < n) : (LsAt rows n k j).getD m [] = inTo rows k (m : Int) ++ if (m : Int) ∈ (getW rows k).ms.take j then [(k : Int)] else [] := by simp [LsAt, h]
theorem LsAt_step {rows : List Rw} {n k j M : Nat} (hj : j < (getW rows k).ms.length) (hM : (getW rows k).ms.getD j 0 = (M : Int)) (hn : M < n) (hp : (getW rows k).ms.Pairwise (· < ·)) : (LsAt rows n k j).set M ((LsAt rows n k j).getD M [] ++ [(k : Int)]) = LsAt rows n k (j + 1) := by
  have htake : (getW rows k).ms.take (j + 1) = (getW rows k).ms.take j ++ [(M : Int)] := by
    rw [List.take_succ_eq_append_getElem hj, ← hM]
    simp [hj]
  have hnot : (M : Int) ∉ (getW rows k).ms.take j := fun hmem => by
    obtain ⟨i, hi⟩ := List.getElem?_of_mem hmem
    obtain ⟨h1, h2⟩ := List.getElem?_eq_some_iff.1 hi
    rw [List.length_take] at h1
    have h3 := List.pairwise_iff_getElem.1 hp i j (by omega) hj (by omega)
    have h4 : (getW rows k).ms[j] = (M : Int) := by rw [← hM]; simp [hj]
    rw [List.getElem_take] at h2
    omega
  apply List.ext_getElem
  · simp [LsAt]
  · intro i h1 h2
    rw [List.length_set, LsAt_len] at h1
    rw [List.getElem_set]
    by_cases e : M = i
    · subst e
      rw [if_pos rfl, LsAt_get hn, if_neg hnot]
      simp [LsAt, htake]
    · rw [if_neg e]
      have : ((i : Int) ∈ (getW rows k).ms.take (j + 1)) = ((i : Int) ∈ (getW rows k).ms.take j) := by
        apply propext
        rw [htake, List.mem_append]
        constructor
        · rintro (h' | h')
          · exact h'
          · simp at h'
            omega
        · exact .inl
      simp only [LsAt, List.getElem_map, List.getElem_range, this]
theorem LsAt_end (rows : List Rw) (n k : Nat) : LsAt rows n k (getW rows k).ms.length = LsAt rows n (k + 1) 0 := by
  unfold LsAt
  apply List.map_congr_left
  intro i _
  rw [inTo_succ, List.take_length]
  simp
theorem LsAt_start (rows : List Rw) (n : Nat) : LsAt rows n 0 0 = List.replicate n [] := by
  unfold LsAt
  apply List.ext_getElem
  · simp
  · intro i h1 h2
    simp [inTo]
theorem LsAt_last {rows : List Rw} {n m : Nat} (h : m < n) : (LsAt rows n rows.length 0).getD m [] = inOf rows (m : Int) := by
  rw [LsAt_get h]
  simp [inOf]

theorem zeroSl : ZeroI Try.prog 39 23 nilV 24 := ZeroI.of Try.underlying39 (by kernel_rfl)
theorem InSt.start (rows : List Rw) (n : Nat) {w w1 : World} (hb : Blk w1 w.heap.size 23 (Array.replicate n nilV)) : InSt w1.heap.size w1 w.heap.size (List.replicate n nilV) (LsAt rows n 0 0) := by
  rw [LsAt_start]
  refine ⟨hb.lt, Nat.le_refl _, by simpa using hb, by simp, fun m hm => ?_, fun m m' hm hm' hne g e => ?_⟩
  · have e1 : (List.replicate n nilV).getD m nilV = nilV := by rw [List.getD_eq_getElem?_getD, List.getElem?_replicate]; split <;> rfl
    have e2 : (List.replicate n ([] : List Int)).getD m [] = [] := by rw [List.getD_eq_getElem?_getD, List.getElem?_replicate]; split <;> rfl
    rw [e1, e2]
    exact World.ownsRow_nil ..
  · have e1 : (List.replicate n nilV).getD m nilV = nilV := by rw [List.getD_eq_getElem?_getD, List.getElem?_replicate]; split <;> rfl
    rw [e1] at e
    cases e

def InOut (rows : List Rw) (n : Nat) (w : World) (e : Ending) (w' : World) : Prop :=
  e = .returned (.slice (some ⟨w.heap.size, 0, none⟩) n n) ∧ Below w.heap.size w w' ∧ ∀ m, m < n → ∃ (oo : Option Addr) (cp : Nat), w'.cell? ⟨w.heap.size, m, none⟩ = some (.slice oo (inOf rows (m : Int)).length cp) ∧ Ints w' oo (inOf rows (m : Int)) ∧ ∀ pp, oo = some pp → w.heap.size ≤ pp.block
theorem InSt.out {rows : List Rw} {n base : Nat} {w wr : World} {vs : List Value} (h : InSt base wr w.heap.size vs (LsAt rows n rows.length 0)) (hb : Below w.heap.size w wr) (hbase : w.heap.size ≤ base) : InOut rows n w (.returned (.slice (some ⟨w.heap.size, 0, none⟩) n n)) wr := by
  refine ⟨rfl, hb, fun m hm => ?_⟩
  have hr := h.row m (by rw [LsAt_len]; exact hm)
  rw [LsAt_last hm] at hr
  have hlt : m < vs.length := by rw [h.len, LsAt_len]; exact hm
  have hc : wr.cell? ⟨w.heap.size, m, none⟩ = some (vs.getD m nilV) := (h.blk.cell m).trans (by simp [hlt])
  have hR : Row w wr 3 1 (vs.getD m nilV) (inOf rows (m : Int)).length ((inOf rows (m : Int)).map (Value.int .i64 ·)) := by
    refine ⟨⟨hr.1, ?_⟩, hb⟩
    rcases hr.2 with h0 | ⟨g, cap, cur, hv, hg, h5⟩
    · exact .inl h0
    · exact .inr ⟨g, cap, cur, hv, Nat.le_trans hbase hg, h5⟩
  obtain ⟨oo, cp, hv, _⟩ := hR.shape
  refine ⟨oo, cp, by rw [hc, hv], hR.ints hv, fun pp hp => ?_⟩
  rw [hv, hp] at hr
  have := (hr.lt pp.block rfl).1
  omega

set_option maxRecDepth 100000 in
set_option maxHeartbeats 8000000 in
theorem rowsOf_any (o : Option Addr) (cap : Nat) (rows : List Rw) (most : List Int) (w : World) (hr : Rws w o rows) (hv : VL rows most) : Calls Try.prog 22 #[.slice o rows.length cap, .int .i64 (most.length : Nat)] w (InOut rows most.length w) := by
  have HR := Lib.hid hr
  have HV := Lib.hid hv
  have hn64 := hv.n64
  have hr64 := hv.r64
  clear hr hv
  obtain ⟨n, hn⟩ : ∃ n, most.length = n := ⟨_, rfl⟩
  have HNN := Lib.hid hn
  rw [hn] at hn64 ⊢
  clear hn
  have HN := Lib.hid (show n ≤ 1000000000 by omega)
  go_enter Try.func22, Try.ntmps22
  go_wp2_with (at_make; refine wp_makeN zeroSl HN.out (by decide) rfl _ _ rfl rfl rfl ?_)
  intro w1 hblk hb
  have HS0 := Lib.hid (InSt.start rows n hblk)
  have HB0 := Lib.hid hb
  have hbs : w.heap.size ≤ w1.heap.size := hb.size
  clear hblk hb
  go_wp2
  obtain ⟨G, hG⟩ : ∃ G, w.heap.size = G := ⟨_, rfl⟩
  have HG := Lib.hid hG
  rw [hG] at HS0 ⊢
  have hGw : w.heap.size ≤ G := by omega
  clear hG
  obtain ⟨base, hbase⟩ : ∃ base, w1.heap.size = base := ⟨_, rfl⟩
  rw [hbase] at HS0 hbs
  clear hbase
  go_loopw [14] (fun i wr => ∃ (k : Nat) (vs : List Value), k ≤ rows.length ∧ i = .int .i64 k ∧ InSt base wr G vs (LsAt rows n k 0) ∧ Below w.heap.size w wr) (fun i _ => rows.length - (intOf i).toNat)
  case atStart => exact ⟨0, _, Nat.zero_le _, rfl, HS0.out, HB0.out⟩
  case round =>
    obtain ⟨k, vs, hk, rfl, hst, hb⟩ := hrel
    have HST := Lib.hid hst
    have HB := Lib.hid hb
    clear hst hb HS0 HB0
    by_cases hlt : k < rows.length
    · obtain ⟨g, off, hgo, oo, cp, hw1, hw2, hms, c0, c1⟩ := HR.out k hlt
      subst hgo
      replace c0 := cell_kept HB.out c0
      replace c1 := cell_kept HB.out c1
      have HROW := Lib.hid (HV.out.row _ (getW_in hlt))
      have HEND := Lib.hid (LsAt_end rows n k)
      have HSTEP := Lib.hid (fun (j M : Nat) (h1 : j < (getW rows k).ms.length) (h2 : (getW rows k).ms.getD j 0 = (M : Int)) (h3 : M < n) => LsAt_step (rows := rows) (n := n) h1 h2 h3 HROW.out.2.2)
      obtain ⟨r, hrr⟩ : ∃ r, getW rows k = r := ⟨_, rfl⟩
      rw [hrr] at c0 c1 hw1 hw2 hms HROW HEND HSTEP
      have HX := Lib.hid (box2 wr 34 (.int .i64 r.c) (.slice oo r.ms.length cp)).1
      have HMS := Lib.hid hms
      clear hrr hms
      have y1 : (0 : Int) ≤ (k : Int) := by omega
      have y2 : (k : Int) < (rows.length : Int) := by omega
      go_wp2
      clear c0 c1
      have HST1 := Lib.hid (HST.out.later HX.out)
      have HB1 := Lib.hid (below_step HB.out HX.out)
      obtain ⟨W, hW⟩ : ∃ W : World, W = wr.alloc (.cells #[.int .i64 r.c, .slice oo r.ms.length cp] 34) := ⟨_, rfl⟩
      rw [← hW] at HST1 HB1 ⊢
      clear hW HST HB HX
      go_loopw [22] (fun i w2 => ∃ (j : Nat) (vs : List Value), j ≤ r.ms.length ∧ i = .int .i64 j ∧ InSt base w2 G vs (LsAt rows n k j) ∧ Below w.heap.size w w2) (fun i _ => r.ms.length - (intOf i).toNat)
      case atStart => exact ⟨0, vs, Nat.zero_le _, rfl, HST1.out, HB1.out⟩
      case round =>
        obtain ⟨j, vs, hj, rfl, hst, hb⟩ := hrel
        have HST := Lib.hid hst
        have HB := Lib.hid hb
        clear hst hb HST1 HB1
        by_cases hjl : j < r.ms.length
        · obtain ⟨h, oh, hho, e0⟩ := (HMS.out.later HB.out) j hjl
          subst hho
          have hmb := HROW.out.2.1 _ (getD_mem hjl)
          have HSJ := Lib.hid (fun (M : Nat) (h2 : r.ms.getD j 0 = (M : Int)) (h3 : M < n) => HSTEP.out j M hjl h2 h3)
          obtain ⟨M, hM⟩ : ∃ M : Nat, r.ms.getD j 0 = (M : Int) := ⟨(r.ms.getD j 0).toNat, by omega⟩
          rw [hM] at e0 hmb
          have hMn : M < n := by have := HNN.out; omega
          have HSM := Lib.hid (HSJ.out M hM hMn)
          clear hM HSJ
          have hMl : M < (LsAt rows n k j).length := by rw [LsAt_len]; exact hMn
          have HRM := Lib.hid (HST.out.row M hMl)
          have hLl : ((LsAt rows n k j).getD M []).length ≤ k + 1 := by
            rw [LsAt_get hMn, List.length_append]
            have := inTo_len rows k (M : Int)
            split <;> simp <;> omega
          have hMv : M < vs.length := by rw [HST.out.len]; exact hMl
          have d0 : wr.cell? ⟨G, M, none⟩ = some (vs.getD M nilV) := (HST.out.blk.cell M).trans (by simp [hMv])
          have HAPP := Lib.hid (fun (w' : World) (v' : Value) (ob : Obj) hrow hg hat => HST.out.app (m := M) (k := k) (w' := w') (v' := v') (o := ob) hMl hrow hg hat)
          have HBG := Lib.hid (fun (w' : World) (ob : Obj) hg => HST.out.blkG (m := M) (w' := w') (o := ob) hMl hg)
          have hbb := HST.out.bb
          rw [HSM.out] at HAPP
          clear HSM
          obtain ⟨v, hv⟩ : ∃ v, vs.getD M nilV = v := ⟨_, rfl⟩
          rw [hv] at d0 HRM HAPP HBG
          obtain ⟨L, hL⟩ : ∃ L, (LsAt rows n k j).getD M [] = L := ⟨_, rfl⟩
          rw [hL] at HRM HAPP hLl
          clear hv hL HST
          have HN1 := Lib.hid (show L.length + 1 ≤ 1000000000 by omega)
          have z1 : (0 : Int) ≤ (j : Int) := by omega
          have z2 : (j : Int) < (r.ms.length : Int) := by omega
          have z3 : (0 : Int) ≤ (M : Int) := by omega
          have z4 : (M : Int) < (n : Int) := by omega
          obtain ⟨ov, cv, hvs, _⟩ := ownsRow_shape' HRM.out
          subst hvs
          go_wp2_with (at_builtin; refine wp_append1O (news := [.int .i64 (k : Int)]) elemI HRM.out hbb HN1.out (by decide) rfl (oneI _) rfl _ _ rfl rfl rfl rfl ?_)
          intro v2 w4 hr2 hgr hat
          obtain ⟨o2, c2, hv2, _⟩ := ownsRow_shape' hr2
          subst hv2
          have HNS := Lib.hid (HAPP.out _ _ _ hr2 hgr hat)
          have HG4 := Lib.hid (HBG.out _ _ hgr)
          have HB4 := Lib.hid (show Below w.heap.size w w4 from (below_alloc HB.out _).grown hgr (by rw [World.size_alloc]; have := HB.out.size; omega) (fun kk e => by have := (HRM.out.lt kk e).1; omega))
          have HB5 := Lib.hid (below_set (g := G) (i := M) (u := .slice o2 (L.length + 1) c2) HB4.out hGw)
          have f0 := HG4.out.frozen M
          have g0 : w4.cell? ⟨G, M, none⟩ = some (vs.getD M nilV) := (HG4.out.cell M).trans (by simp [hMv])
          clear hr2 hgr hat d0 e0 HAPP HBG
          obtain ⟨u0, hu0⟩ : ∃ u0, vs.getD M nilV = u0 := ⟨_, rfl⟩
          rw [hu0] at g0
          clear hu0
          obtain ⟨vs2, hvs2⟩ : ∃ vs2, vs.set M (.slice o2 (L.length + 1) c2) = vs2 := ⟨_, rfl⟩
          rw [hvs2] at HNS
          clear hvs2
          go_wp2
          go_roundw
          case rel => exact ⟨j + 1, vs2, by omega, by go_num, HNS.out, HB5.out⟩
          case measure => simp [intOf]; omega
        · obtain rfl : j = r.ms.length := by omega
          rw [HEND.out] at HST
          go_wp2
          go_roundw
          case rel => exact ⟨k + 1, vs, by omega, by go_num, HST.out, HB.out⟩
          case measure => simp [intOf]; omega
    · obtain rfl : k = rows.length := by omega
      obtain rfl : w.heap.size = G := HG.out
      go_wp2
      go_ret
      exact HST.out.out HB.out hbs
end Go.Proofs.Ytjaeekikddbbeaa
