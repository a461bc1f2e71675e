/- Package plan: Schedule's memory behind the flow. -/
import Derived.Test.YthgkfdhkmkbioaaPc21
import Derived.Deep.Onto
namespace Go.Proofs.Ythgkfdhkmkbioaa
open Go.RowKit Go.Shelf

theorem sum2_any (B : Nat) (a b : Int) (w : World) (h : Blk w B 3 #[.int .i64 a, .int .i64 b]) (ha : -1000000 ≤ a ∧ a ≤ 1000000) (hb : -1000000 ≤ b ∧ b ≤ 1000000) : Calls Try.prog 19 #[.slice (some ⟨B, 0, none⟩) 2 2] w (Ret (.int .i64 (a + b)) w) := by
  have := sum_any (some ⟨B, 0, none⟩) 2 [a, b] w (fun i hi => ⟨B, 0, rfl, by
      rw [Nat.zero_add]
      match i, hi with
      | 0, _ => exact h.cell 0
      | 1, _ => exact h.cell 1⟩) (by simp) (fun k hk => by
      match k, hk with
      | 0, _ => simp [sumI]
      | 1, _ => simp [sumI]; omega
      | 2, _ => simp [sumI]; omega)
  have e : sumI [a, b] = a + b := by simp [sumI]
  rwa [e] at this
theorem job_nat {m : Nat} {j : Jb} (h : OkJ m j) : ∃ (F T : Nat) (e r kk : Int), j = ⟨(F : Int), (T : Int), e, r, kk⟩ := by
  obtain ⟨f, t, e, r, kk⟩ := j
  have h0 : 0 ≤ f := h.f0
  have h1 : f ≤ t := h.ft
  exact ⟨f.toNat, t.toNat, e, r, kk, by rw [Int.toNat_of_nonneg h0, Int.toNat_of_nonneg (by omega)]⟩
/-! ### The cut while it is made -/
structure ChR (w wr : World) (rest : List Nat) (L1 L2 : List Nat) (x129 x134 x135 x24 : Value) : Prop where
  bel : Below w.heap.size w wr
  r1 : 4 ∉ rest → wr.ownsRow w.heap.size 3 1 x129 L1.length (intsV (natI L1))
  r2 : 9 ∉ rest → wr.ownsRow w.heap.size 3 1 x134 L2.length (intsV (natI L2))
  b : 10 ∉ rest → (4 ∉ rest ∧ 9 ∉ rest) ∧ x135 = .agg #[x129, x134]
  o : 12 ∉ rest → 10 ∉ rest
  o2 : 12 ∉ rest → 11 ∉ rest
  a : 11 ∉ rest → ∃ A, x24 = .pointer (some ⟨A, 0, none⟩) ∧ w.heap.size ≤ A ∧ (12 ∈ rest → Blk wr A 30 #[.slice none 0 0, .slice none 0 0]) ∧ (12 ∉ rest → Blk wr A 30 #[x129, x134])
section
variable {w wr wr' : World} {rest : List Nat} {L1 L2 : List Nat} {x129 x134 x135 x24 v : Value}
theorem in_erase {c d : Nat} (h : d ∈ rest.erase c) : d ∈ rest := List.mem_of_mem_erase h
theorem ChR.call1 (h : ChR w wr rest L1 L2 x129 x134 x135 x24) (hc : 4 ∈ rest) (hb : Below wr.heap.size wr wr') (hr : wr'.ownsRow wr.heap.size 3 1 v L1.length (intsV (natI L1))) : ChR w wr' (rest.erase 4) L1 L2 v x134 x135 x24 :=
  ⟨below_step h.bel hb, fun _ => hr.mono h.bel.size, fun h9 => ownsRow_later (h.r2 (not_erase h9 (by decide))) hb, fun h10 => absurd hc (h.b (not_erase h10 (by decide))).1.1, fun h12 => absurd hc (h.b (h.o (not_erase h12 (by decide)))).1.1, fun h12 => absurd hc (h.b (h.o (not_erase h12 (by decide)))).1.1, fun h11 => by
    obtain ⟨A, e1, e2, e3, _⟩ := h.a (not_erase h11 (by decide))
    exact ⟨A, e1, e2, fun h12 => (e3 (in_erase h12)).later hb, fun h12 => absurd hc (h.b (h.o (not_erase h12 (by decide)))).1.1⟩⟩
theorem ChR.call2 (h : ChR w wr rest L1 L2 x129 x134 x135 x24) (hc : 9 ∈ rest) (hb : Below wr.heap.size wr wr') (hr : wr'.ownsRow wr.heap.size 3 1 v L2.length (intsV (natI L2))) : ChR w wr' (rest.erase 9) L1 L2 x129 v x135 x24 :=
  ⟨below_step h.bel hb, fun h4 => ownsRow_later (h.r1 (not_erase h4 (by decide))) hb, fun _ => hr.mono h.bel.size, fun h10 => absurd hc (h.b (not_erase h10 (by decide))).1.2, fun h12 => absurd hc (h.b (h.o (not_erase h12 (by decide)))).1.2, fun h12 => absurd hc (h.b (h.o (not_erase h12 (by decide)))).1.2, fun h11 => by
    obtain ⟨A, e1, e2, e3, _⟩ := h.a (not_erase h11 (by decide))
    exact ⟨A, e1, e2, fun h12 => (e3 (in_erase h12)).later hb, fun h12 => absurd hc (h.b (h.o (not_erase h12 (by decide)))).1.2⟩⟩
theorem ChR.built (h : ChR w wr rest L1 L2 x129 x134 x135 x24) (hc : 10 ∈ rest) (h4 : 4 ∉ rest) (h9 : 9 ∉ rest) : ChR w wr (rest.erase 10) L1 L2 x129 x134 (.agg #[x129, x134]) x24 :=
  ⟨h.bel, fun _ => h.r1 h4, fun _ => h.r2 h9, fun _ => ⟨⟨fun hm => h4 (in_erase hm), fun hm => h9 (in_erase hm)⟩, rfl⟩, fun h12 => absurd hc (h.o (not_erase h12 (by decide))), fun h12 => absurd hc (h.o (not_erase h12 (by decide))), fun h11 => by
    obtain ⟨A, e1, e2, e3, _⟩ := h.a (not_erase h11 (by decide))
    exact ⟨A, e1, e2, fun h12 => e3 (in_erase h12), fun h12 => absurd hc (h.o (not_erase h12 (by decide)))⟩⟩
theorem ChR.made (h : ChR w wr rest L1 L2 x129 x134 x135 x24) (hc : 11 ∈ rest) : ChR w (wr.alloc (.cells #[.slice none 0 0, .slice none 0 0] 30)) (rest.erase 11) L1 L2 x129 x134 x135 (.pointer (some ⟨wr.heap.size, 0, none⟩)) :=
  have hb : Below wr.heap.size wr (wr.alloc (.cells #[.slice none 0 0, .slice none 0 0] 30)) := below_alloc (Below.refl _ _) _
  ⟨below_step h.bel hb, fun h4 => ownsRow_later (h.r1 (not_erase h4 (by decide))) hb, fun h9 => ownsRow_later (h.r2 (not_erase h9 (by decide))) hb, fun h10 => by
    obtain ⟨⟨a1, a2⟩, a3⟩ := h.b (not_erase h10 (by decide))
    exact ⟨⟨fun hm => a1 (in_erase hm), fun hm => a2 (in_erase hm)⟩, a3⟩, fun h12' hm => h.o (not_erase h12' (by decide)) (in_erase hm), fun h12' => absurd hc (h.o2 (not_erase h12' (by decide))), fun _ => ⟨wr.heap.size, rfl, h.bel.size, fun _ => Blk.new .., fun h12' => absurd hc (h.o2 (not_erase h12' (by decide)))⟩⟩
theorem ChR.stored {A : Nat} (h : ChR w wr rest L1 L2 x129 x134 x135 (.pointer (some ⟨A, 0, none⟩))) (hn : rest.Nodup) (hc : 12 ∈ rest) (h10 : 10 ∉ rest) (h11 : 11 ∉ rest) : ChR w ((wr.setCell ⟨A, 0, none⟩ x129).setCell ⟨A, 1, none⟩ x134) (rest.erase 12) L1 L2 x129 x134 x135 (.pointer (some ⟨A, 0, none⟩)) := by
  obtain ⟨A', e1, e2, e3, _⟩ := h.a h11
  cases e1
  have hB := e3 hc
  obtain ⟨⟨h4, h9⟩, e5⟩ := h.b h10
  have hr1 := h.r1 h4
  have hr2 := h.r2 h9
  have n1 := Blk.not_row hB (by decide) hr1
  have n2 := Blk.not_row hB (by decide) hr2
  refine ⟨(h.bel.setCell e2 _).setCell e2 _, fun _ => ownsRow_setCell_other (a := ⟨A, 1, none⟩) (ownsRow_setCell_other (a := ⟨A, 0, none⟩) hr1 n1 _) n1 _, fun _ => ownsRow_setCell_other (a := ⟨A, 1, none⟩) (ownsRow_setCell_other (a := ⟨A, 0, none⟩) hr2 n2 _) n2 _, fun _ => ⟨⟨fun hm => h4 (in_erase hm), fun hm => h9 (in_erase hm)⟩, e5⟩, fun _ hm => h10 (in_erase hm), fun _ hm => h11 (in_erase hm), fun _ => ⟨A, rfl, e2, fun hm => absurd hm (hn.not_mem_erase), fun _ => ?_⟩⟩
  have := (hB.set 0 x129).set 1 x134
  simpa using this
end
/-- The cut when it is made. -/
structure CutM (w wr : World) (C : Nat) (v1 v2 : Value) (L1 L2 : List Nat) (Ds : List Nat) : Prop where
  bel : Below w.heap.size w wr
  r1 : wr.ownsRow w.heap.size 3 1 v1 L1.length (intsV (natI L1))
  r2 : wr.ownsRow w.heap.size 3 1 v2 L2.length (intsV (natI L2))
  c : Blk wr C 30 #[v1, v2]
  ds : ∀ D ∈ Ds, wr.heap[D]? = some (.deferred (some []))
theorem CutM.taken {w wr : World} {C : Nat} {v1 v2 : Value} {L1 L2 : List Nat} (h : CutM w wr C v1 v2 L1 L2 []) {D : Nat} (hD : wr.heap[D]? = some (.deferred (some []))) (hl : w.heap.size ≤ D) : CutM w (wr.putObj D (.deferred none)) C v1 v2 L1 L2 [] :=
  have hg := grownBy_putObj' wr D (.deferred none)
  have hr : ∀ r, some D = some r → ∃ o : Obj, wr.heap[r]? = some o ∧ o.isCells = false := fun r e => by cases e; exact ⟨_, hD, rfl⟩
  ⟨h.bel.grown hg h.bel.size (fun k e => by cases e; exact hl), ownsRow_turn h.r1 hg hr, ownsRow_turn h.r2 hg hr, blk_turn h.c hg hr, fun D' hD' => by cases hD'⟩
theorem CutM.later {w wr w' : World} {C : Nat} {v1 v2 : Value} {L1 L2 : List Nat} {Ds : List Nat} (h : CutM w wr C v1 v2 L1 L2 Ds) (hb : Below wr.heap.size wr w') : CutM w w' C v1 v2 L1 L2 Ds :=
  ⟨below_step h.bel hb, ownsRow_later h.r1 hb, ownsRow_later h.r2 hb, h.c.later hb, fun D hD => (hb.block D (Array.getElem?_eq_some_iff.1 (h.ds D hD)).1).trans (h.ds D hD)⟩
theorem CutM.free {w wr : World} {C : Nat} {v1 v2 : Value} {L1 L2 : List Nat} {Ds : List Nat} (h : CutM w wr C v1 v2 L1 L2 Ds) : CutM w wr C v1 v2 L1 L2 [] :=
  ⟨h.bel, h.r1, h.r2, h.c, fun D' hD' => by cases hD'⟩
theorem mark_cell {W : World} {B : Nat} {t : TypeId} {cs : Array Value} (hB : Blk W B t cs) {D i : Nat} {u : Value} {o : Obj} (hD : W.heap[D]? = some o) (ho : o.isCells = false) : (W.setCell ⟨B, i, none⟩ u).heap[D]? = some o :=
  (Below.heap_setCell W _ _ _ (fun e => by
    have e2 : B = D := e.symm
    subst e2
    unfold Blk at hB
    rw [hD] at hB
    cases hB
    cases ho)).trans hD
theorem CutM.of {w W5 W6 : World} {x : Sp} {E : List Ed} {v v1 v2 : Value} {L1 L2 : List Nat} {Ds : List Nat} (h : ScM w W5 x E v Ds) (hb : Below W5.heap.size W5 W6) (h1 : W6.ownsRow W5.heap.size 3 1 v1 L1.length (intsV (natI L1))) (h2 : W6.ownsRow W5.heap.size 3 1 v2 L2.length (intsV (natI L2))) : CutM w ((W6.setCell ⟨x.C, 0, none⟩ v1).setCell ⟨x.C, 1, none⟩ v2) x.C v1 v2 L1 L2 Ds := by
  have hm := h.later hb
  have r1 := h1.mono (base' := w.heap.size) h.bel.size
  have r2 := h2.mono (base' := w.heap.size) h.bel.size
  have n1 := Blk.not_row hm.c (by decide) r1
  have n2 := Blk.not_row hm.c (by decide) r2
  refine ⟨(hm.bel.setCell h.low.2.1 _).setCell h.low.2.1 _, ownsRow_setCell_other (a := ⟨x.C, 1, none⟩) (ownsRow_setCell_other (a := ⟨x.C, 0, none⟩) r1 n1 _) n1 _, ownsRow_setCell_other (a := ⟨x.C, 1, none⟩) (ownsRow_setCell_other (a := ⟨x.C, 0, none⟩) r2 n2 _) n2 _, ?_, fun D hD => mark_cell (hm.c.set 0 v1) (mark_cell hm.c (hm.ds D hD) rfl) rfl⟩
  have := (hm.c.set 0 v1).set 1 v2
  simpa using this

/-! ### The plan while it is made -/
structure PlM (w wr : World) (P C PB UB AL OB FB : Nat) (oj : Option Addr) (n cj m : Nat) (fl L : List Int) (uv : Value) (Ds : List Nat) : Prop where
  bel : Below w.heap.size w wr
  p : Blk wr P 22 #[.slice oj n cj]
  c : Blk wr C 30 #[.slice none 0 0, .slice none 0 0]
  ob : Blk wr OB 23 (rowsC (fun i => .slice (some ⟨AL, i * m, none⟩) m m) n)
  al : Blk wr AL 3 (intsC L)
  fb : Blk wr FB 3 (intsC fl)
  pb : Blk wr PB 28 #[.slice (some ⟨OB, 0, none⟩) n n]
  ub : Blk wr UB 23 #[uv]
  n1 : AL ≠ FB
  n2 : OB ≠ UB
  low : w.heap.size ≤ C ∧ w.heap.size ≤ AL ∧ w.heap.size ≤ UB ∧ w.heap.size ≤ OB
  ds : ∀ D ∈ Ds, wr.heap[D]? = some (.deferred (some []))
section
variable {w wr w' : World} {P C PB UB AL OB FB : Nat} {oj : Option Addr} {n cj m : Nat} {fl L : List Int} {uv : Value} {Ds : List Nat}
theorem PlM.later (h : PlM w wr P C PB UB AL OB FB oj n cj m fl L uv Ds) (hb : Below wr.heap.size wr w') : PlM w w' P C PB UB AL OB FB oj n cj m fl L uv Ds :=
  ⟨below_step h.bel hb, h.p.later hb, h.c.later hb, h.ob.later hb, h.al.later hb, h.fb.later hb, h.pb.later hb, h.ub.later hb, h.n1, h.n2, h.low, fun D hD => (hb.block D (Array.getElem?_eq_some_iff.1 (h.ds D hD)).1).trans (h.ds D hD)⟩
theorem PlM.turn {B : Nat} {row : Option Nat} (h : PlM w wr P C PB UB AL OB FB oj n cj m fl L uv Ds) (hB : ∀ D ∈ Ds, D < B) (hw : w.heap.size ≤ B) (hg : wr.grownBy w' row) (hr : ∀ r, row = some r → B ≤ r ∧ ∃ o : Obj, wr.heap[r]? = some o ∧ o.isCells = false) : PlM w w' P C PB UB AL OB FB oj n cj m fl L uv Ds :=
  have hr2 := fun r e => (hr r e).2
  ⟨h.bel.grown hg h.bel.size (fun k e => Nat.le_trans hw (hr k e).1), blk_turn h.p hg hr2, blk_turn h.c hg hr2, blk_turn h.ob hg hr2, blk_turn h.al hg hr2, blk_turn h.fb hg hr2, blk_turn h.pb hg hr2, blk_turn h.ub hg hr2, h.n1, h.n2, h.low,
    fun D hD => (hg.block D (Array.getElem?_eq_some_iff.1 (h.ds D hD)).1 (fun e => by have := (hr D e.symm).1; have := hB D hD; omega)).trans (h.ds D hD)⟩
theorem PlM.mark (h : PlM w wr P C PB UB AL OB FB oj n cj m fl L uv Ds) {D : Nat} (hD : wr.heap[D]? = some (.deferred (some []))) : PlM w wr P C PB UB AL OB FB oj n cj m fl L uv (D :: Ds) :=
  ⟨h.bel, h.p, h.c, h.ob, h.al, h.fb, h.pb, h.ub, h.n1, h.n2, h.low, fun D' hD' => by
    rcases List.mem_cons.1 hD' with e | e
    · rw [e]; exact hD
    · exact h.ds D' e⟩
theorem PlM.taken (h : PlM w wr P C PB UB AL OB FB oj n cj m fl L uv []) {D : Nat} (hD : wr.heap[D]? = some (.deferred (some []))) (hl : w.heap.size ≤ D) : PlM w (wr.putObj D (.deferred none)) P C PB UB AL OB FB oj n cj m fl L uv [] :=
  have hg := grownBy_putObj' wr D (.deferred none)
  have hr : ∀ r, some D = some r → ∃ o : Obj, wr.heap[r]? = some o ∧ o.isCells = false := fun r e => by cases e; exact ⟨_, hD, rfl⟩
  ⟨h.bel.grown hg h.bel.size (fun k e => by cases e; exact hl), blk_turn h.p hg hr, blk_turn h.c hg hr, blk_turn h.ob hg hr, blk_turn h.al hg hr, blk_turn h.fb hg hr, blk_turn h.pb hg hr, blk_turn h.ub hg hr, h.n1, h.n2, h.low, fun D' hD' => by cases hD'⟩
theorem PlM.free (h : PlM w wr P C PB UB AL OB FB oj n cj m fl L uv Ds) : PlM w wr P C PB UB AL OB FB oj n cj m fl L uv [] :=
  ⟨h.bel, h.p, h.c, h.ob, h.al, h.fb, h.pb, h.ub, h.n1, h.n2, h.low, fun D' hD' => by cases hD'⟩
theorem PlM.setA (h : PlM w wr P C PB UB AL OB FB oj n cj m fl L uv Ds) (i : Nat) (x : Int) : PlM w (wr.setCell ⟨AL, i, none⟩ (.int .i64 x)) P C PB UB AL OB FB oj n cj m fl (L.set i x) uv Ds :=
  ⟨h.bel.setCell h.low.2.1 _, h.p.other (p := ⟨AL, i, none⟩) (Blk.ne h.p h.al (by decide)) _, h.c.other (p := ⟨AL, i, none⟩) (Blk.ne h.c h.al (by decide)) _, h.ob.other (p := ⟨AL, i, none⟩) (Blk.ne h.ob h.al (by decide)) _, by
    have := h.al.set i (.int .i64 x)
    rwa [intsC_set] at this, h.fb.other (p := ⟨AL, i, none⟩) h.n1.symm _, h.pb.other (p := ⟨AL, i, none⟩) (Blk.ne h.pb h.al (by decide)) _, h.ub.other (p := ⟨AL, i, none⟩) (Blk.ne h.ub h.al (by decide)) _, h.n1, h.n2, h.low, fun D hD => mark_cell h.al (h.ds D hD) rfl⟩
theorem PlM.setU (h : PlM w wr P C PB UB AL OB FB oj n cj m fl L uv Ds) (u : Value) : PlM w (wr.setCell ⟨UB, 0, none⟩ u) P C PB UB AL OB FB oj n cj m fl L u Ds :=
  ⟨h.bel.setCell h.low.2.2.1 _, h.p.other (p := ⟨UB, 0, none⟩) (Blk.ne h.p h.ub (by decide)) _, h.c.other (p := ⟨UB, 0, none⟩) (Blk.ne h.c h.ub (by decide)) _, h.ob.other (p := ⟨UB, 0, none⟩) h.n2 _, h.al.other (p := ⟨UB, 0, none⟩) (Blk.ne h.al h.ub (by decide)) _, h.fb.other (p := ⟨UB, 0, none⟩) (Blk.ne h.fb h.ub (by decide)) _, h.pb.other (p := ⟨UB, 0, none⟩) (Blk.ne h.pb h.ub (by decide)) _, by
    have := h.ub.set 0 u
    simpa using this, h.n1, h.n2, h.low, fun D hD => mark_cell h.ub (h.ds D hD) rfl⟩
theorem PlM.setC (h : PlM w wr P C PB UB AL OB FB oj n cj m fl L uv Ds) : PlM w ((wr.setCell ⟨C, 0, none⟩ (.slice none 0 0)).setCell ⟨C, 1, none⟩ (.slice none 0 0)) P C PB UB AL OB FB oj n cj m fl L uv Ds :=
  have two {B : Nat} {t : TypeId} {cs : Array Value} (hb : Blk wr B t cs) (hne : B ≠ C) : Blk ((wr.setCell ⟨C, 0, none⟩ (.slice none 0 0)).setCell ⟨C, 1, none⟩ (.slice none 0 0)) B t cs := (hb.other (p := ⟨C, 0, none⟩) hne _).other (p := ⟨C, 1, none⟩) hne _
  ⟨(h.bel.setCell h.low.1 _).setCell h.low.1 _, two h.p (Blk.ne h.p h.c (by decide)), by
    have := (h.c.set 0 (.slice none 0 0)).set 1 (.slice none 0 0)
    simpa using this, two h.ob (Blk.ne h.ob h.c (by decide)), two h.al (Blk.ne h.al h.c (by decide)), two h.fb (Blk.ne h.fb h.c (by decide)), two h.pb (Blk.ne h.pb h.c (by decide)), two h.ub (Blk.ne h.ub h.c (by decide)), h.n1, h.n2, h.low, fun D hD => mark_cell (h.c.set 0 (.slice none 0 0)) (mark_cell h.c (h.ds D hD) rfl) rfl⟩
end
/-- What the table holds: all of the first k jobs, and of the next one the slots ahead of c. -/
structure TabL (J : List Jb) (S : List Int) (fl : List Int) (k c : Nat) (L : List Int) : Prop where
  len : L.length = J.length * S.length
  val : ∀ i t, i < J.length → t < S.length → L.getD (i * S.length + t) 0 = if i < k ∨ (i = k ∧ t < c) then flowP J S fl i t else 0
theorem flat_inj {i k m t s : Nat} (ht : t < m) (hs : s < m) (h : i * m + t = k * m + s) : i = k ∧ t = s := by
  have h1 : (i * m + t) / m = i := by rw [Nat.add_comm, Nat.add_mul_div_right _ _ (by omega), Nat.div_eq_of_lt ht, Nat.zero_add]
  have h2 : (k * m + s) / m = k := by rw [Nat.add_comm, Nat.add_mul_div_right _ _ (by omega), Nat.div_eq_of_lt hs, Nat.zero_add]
  rw [h, h2] at h1
  subst h1
  exact ⟨rfl, by omega⟩
theorem flat_lt {i n m t : Nat} (hi : i < n) (ht : t < m) : i * m + t < n * m := by
  have h1 : i * m + m ≤ n * m := by
    rw [← Nat.succ_mul]
    exact Nat.mul_le_mul_right m hi
  omega
theorem TabL.zero (J : List Jb) (S : List Int) (fl : List Int) : TabL J S fl 0 0 (List.replicate (J.length * S.length) 0) :=
  ⟨by simp, fun i t _ _ => by
    rw [if_neg (by omega), List.getD_eq_getElem?_getD, List.getElem?_replicate]
    split <;> rfl⟩
theorem TabL.step {J : List Jb} {S : List Int} {fl L : List Int} {k c : Nat} (h : TabL J S fl k c L) (hk : k < J.length) (hc : c < S.length) {x : Int} (hx : x = flowP J S fl k c) : TabL J S fl k (c + 1) (L.set (k * S.length + c) x) := by
  refine ⟨by rw [List.length_set]; exact h.len, fun i t hi ht => ?_⟩
  by_cases e : i = k ∧ t = c
  · obtain ⟨rfl, rfl⟩ := e
    rw [getD_set_self (by rw [h.len]; exact flat_lt hi ht), if_pos (.inr ⟨rfl, by omega⟩), hx]
  · rw [getD_set_ne (fun h2 => e (by have := flat_inj hc ht h2; exact ⟨this.1.symm, this.2.symm⟩)), h.val i t hi ht]
    by_cases e2 : i < k ∨ (i = k ∧ t < c)
    · rw [if_pos e2, if_pos (by omega)]
    · rw [if_neg e2, if_neg (by omega)]
/-- The slots ahead of a job's first one hold nothing. -/
theorem TabL.start {J : List Jb} {S : List Int} {fl L : List Int} {k F : Nat} (h : TabL J S fl k 0 L) (hF : (getJ J k).f.toNat = F) : TabL J S fl k F L :=
  ⟨h.len, fun i t hi ht => by
    rw [h.val i t hi ht]
    by_cases e : i < k
    · rw [if_pos (.inl e), if_pos (.inl e)]
    · rw [if_neg (by omega)]
      by_cases e2 : i = k ∧ t < F
      · rw [if_pos (.inr e2)]
        obtain ⟨rfl, ht2⟩ := e2
        unfold flowP
        rw [if_neg (by omega)]
      · rw [if_neg (by omega)]⟩
theorem TabL.next {J : List Jb} {S : List Int} {fl L : List Int} {k T : Nat} (h : TabL J S fl k T L) (hT : (getJ J k).t.toNat = T) : TabL J S fl (k + 1) 0 L :=
  ⟨h.len, fun i t hi ht => by
    rw [h.val i t hi ht]
    by_cases e : i < k
    · rw [if_pos (.inl e), if_pos (.inl (by omega))]
    · by_cases e2 : i = k
      · subst e2
        by_cases e3 : t < T
        · rw [if_pos (.inr ⟨rfl, e3⟩), if_pos (.inl (Nat.lt_succ_self _))]
        · rw [if_neg (by omega), if_pos (.inl (Nat.lt_succ_self _))]
          unfold flowP
          rw [if_neg (by omega)]
      · rw [if_neg (by omega), if_neg (by omega)]⟩
/-- What is left of the flow to be used. -/
def UseV (FB EL pos : Nat) (v : Value) : Prop := ∃ uo R, v = .slice uo R R ∧ pos + R = EL ∧ (0 < R → uo = some ⟨FB, pos, none⟩)
theorem UseV.first {FB EL q : Nat} (h : q ≤ EL) : UseV FB EL q (.slice (if EL = q then some ⟨FB, 0, none⟩ else some ⟨FB, q, none⟩) (EL - q) (EL - q)) :=
  ⟨_, _, rfl, by omega, fun hR => by rw [if_neg (by omega)]⟩
theorem UseV.next {FB EL pos R : Nat} (h : pos + R = EL) (hR : 0 < R) : UseV FB EL (pos + 1) (.slice (if R = 1 then some ⟨FB, pos, none⟩ else some ⟨FB, pos + 1, none⟩) (R - 1) (R - 1)) :=
  ⟨_, _, rfl, by omega, fun h2 => by rw [if_neg (by omega)]⟩
/-- Where the plan's parts lie. -/
structure Pp where
  P : Nat
  C : Nat
  PB : Nat
  UB : Nat
  AL : Nat
  OB : Nat
  FB : Nat
  oj : Option Addr
  cj : Nat
  EL : Nat
  qo : Nat
def S4 {F T : Nat} (w W : World) (y : Pp) (J : List Jb) (S fl : List Int) (k IB JB q : Nat) (bx : Array Value) (Ds : List Nat) (pre : List (SlT F T)) : Prop :=
  ∃ L uv, PlM w W y.P y.C y.PB y.UB y.AL y.OB y.FB y.oj J.length y.cj S.length fl L uv Ds ∧ L.length = J.length * S.length ∧ (pre.map (·.1) = List.range' F pre.length → TabL J S fl k (F + pre.length) L) ∧ UseV y.FB y.EL (y.qo + offJ J k + pre.length) uv ∧ Blk W IB 3 #[.int .i64 (k : Nat)] ∧ Blk W JB 27 bx ∧ Blk W q 27 bx
theorem S4.turn {F T : Nat} {w W W' : World} {y : Pp} {J : List Jb} {S fl : List Int} {k IB JB q : Nat} {bx : Array Value} {Ds : List Nat} {pre : List (SlT F T)} {B : Nat} {row : Option Nat} (h : S4 w W y J S fl k IB JB q bx Ds pre) (hB : ∀ D ∈ Ds, D < B) (hw : w.heap.size ≤ B) (hg : W.grownBy W' row) (hr : ∀ r, row = some r → B ≤ r ∧ ∃ o : Obj, W.heap[r]? = some o ∧ o.isCells = false) : S4 w W' y J S fl k IB JB q bx Ds pre := by
  obtain ⟨L, uv, h1, h0, h2, h3, h4, h5, h6⟩ := h
  exact ⟨L, uv, h1.turn hB hw hg hr, h0, h2, h3, blk_turn h4 hg (fun r e => (hr r e).2), blk_turn h5 hg (fun r e => (hr r e).2), blk_turn h6 hg (fun r e => (hr r e).2)⟩
theorem range'_pre {F T : Nat} {pre : List (SlT F T)} {t : SlT F T} (h : (pre ++ [t]).map (·.1) = List.range' F (pre ++ [t]).length) : pre.map (·.1) = List.range' F pre.length ∧ t.1 = F + pre.length := by
  rw [List.length_append, List.length_singleton, range'_snoc, List.map_append] at h
  have := List.append_inj h (by simp)
  exact ⟨this.1, by simpa using this.2⟩
/-- What Schedule hands over. -/
structure SchedOut (w w' : World) (J : List Jb) (S : List Int) (e : Ending) : Prop where
  bel : Below w.heap.size w w'
  ex : (∃ (AL OB : Nat) (L : List Int) (P : Nat → Nat → Int), e = .returned (.tuple #[.slice (some ⟨OB, 0, none⟩) J.length J.length, .agg #[.slice none 0 0, .slice none 0 0], .int .i64 0]) ∧ (w.heap.size ≤ AL ∧ w.heap.size ≤ OB) ∧ Blk w' OB 23 (rowsC (fun i => .slice (some ⟨AL, i * S.length, none⟩) S.length S.length) J.length) ∧ Blk w' AL 3 (intsC L) ∧ L.length = J.length * S.length ∧ (∀ i t, i < J.length → t < S.length → L.getD (i * S.length + t) 0 = P i t) ∧ PlanOk J S P)
    ∨ (∃ (v1 v2 : Value) (C T : Nat → Bool), e = .returned (.tuple #[.slice none 0 0, .agg #[v1, v2], .int .i64 10]) ∧ w'.ownsRow w.heap.size 3 1 v1 (chosenL C J.length).length (intsV (natI (chosenL C J.length))) ∧ w'.ownsRow w.heap.size 3 1 v2 (chosenL T S.length).length (intsV (natI (chosenL T S.length))) ∧ CutOk J S C T)
end Go.Proofs.Ythgkfdhkmkbioaa
