/- Package plan: Schedule's memory while the graph is made. -/
import Derived.Test.YthgkfdhkmkbioaaPb21
namespace Go.Proofs.Ythgkfdhkmkbioaa
open Go.RowKit Go.Shelf
attribute [local go_sem] Oper.semAt_some

def flatE (E : List Ed) : List Value := E.flatMap fun e => [.int .i64 (e.f : Nat), .int .i64 (e.t : Nat), .int .i64 e.c]
theorem flatE_snoc (E : List Ed) (e : Ed) : flatE (E ++ [e]) = flatE E ++ [.int .i64 (e.f : Nat), .int .i64 (e.t : Nat), .int .i64 e.c] := by simp [flatE]
theorem flatE_get : ∀ {E : List Ed} {i : Nat}, i < E.length → (flatE E)[i * 3]? = some (.int .i64 ((getE E i).f : Nat)) ∧ (flatE E)[i * 3 + 1]? = some (.int .i64 ((getE E i).t : Nat)) ∧ (flatE E)[i * 3 + 2]? = some (.int .i64 (getE E i).c)
  | [], _, h => absurd h (Nat.not_lt_zero _)
  | _ :: _, 0, _ => ⟨rfl, rfl, rfl⟩
  | x :: l, i + 1, h => by
    have := flatE_get (E := l) (i := i) (by simpa using h)
    rw [show (i + 1) * 3 = i * 3 + 3 by omega]
    exact this
theorem elemE : ElemI Try.prog 51 55 3 24 := ElemI.of Try.underlying51 (by kernel_rfl) (by decide)
theorem oneI3 (x y z : Int) : ∀ u ∈ [Value.int .i64 x, .int .i64 y, .int .i64 z], u.oneCell' = true := fun u hu => by simp at hu; rcases hu with rfl | rfl | rfl <;> rfl
/-- Where Schedule's variables lie. -/
structure Sp where
  P : Nat
  C : Nat
  F9 : Nat
  F10 : Nat
  G : Nat
  n : Nat
  cj : Nat
  N : Nat
  oj : Option Addr
structure ScM (w wr : World) (x : Sp) (E : List Ed) (v : Value) (Ds : List Nat) : Prop where
  bel : Below w.heap.size w wr
  p : Blk wr x.P 22 #[.slice x.oj x.n x.cj]
  c : Blk wr x.C 30 #[.slice none 0 0, .slice none 0 0]
  f9 : Blk wr x.F9 50 #[.func (.func 17) #[] #[]]
  f10 : Blk wr x.F10 50 #[.func (.func 18) #[] #[.pointer (some ⟨x.P, 0, none⟩)]]
  g : Blk wr x.G 53 #[.int .i64 (x.N : Nat), v]
  row : wr.ownsRow w.heap.size 55 3 v E.length (flatE E)
  low : w.heap.size ≤ x.P ∧ w.heap.size ≤ x.C ∧ w.heap.size ≤ x.F9 ∧ w.heap.size ≤ x.F10 ∧ w.heap.size ≤ x.G
  ds : ∀ D ∈ Ds, wr.heap[D]? = some (.deferred (some []))
section
variable {w wr w' : World} {x : Sp} {E : List Ed} {v : Value} {Ds : List Nat}
theorem ScM.later (h : ScM w wr x E v Ds) (hb : Below wr.heap.size wr w') : ScM w w' x E v Ds :=
  ⟨below_step h.bel hb, h.p.later hb, h.c.later hb, h.f9.later hb, h.f10.later hb, h.g.later hb, ownsRow_later h.row hb, h.low, fun D hD => (hb.block D (Array.getElem?_eq_some_iff.1 (h.ds D hD)).1).trans (h.ds D hD)⟩
theorem ScM.turn {B : Nat} {row : Option Nat} (h : ScM w wr x E v Ds) (hB : ∀ D ∈ Ds, D < B) (hw : w.heap.size ≤ B) (hg : wr.grownBy w' row) (hr : ∀ r, row = some r → B ≤ r ∧ ∃ o : Obj, wr.heap[r]? = some o ∧ o.isCells = false) : ScM w w' x E v Ds :=
  have hr2 := fun r e => (hr r e).2
  ⟨h.bel.grown hg h.bel.size (fun k e => Nat.le_trans hw (hr k e).1), blk_turn h.p hg hr2, blk_turn h.c hg hr2, blk_turn h.f9 hg hr2, blk_turn h.f10 hg hr2, blk_turn h.g hg hr2, ownsRow_turn h.row hg hr2, h.low,
    fun D hD => (hg.block D (Array.getElem?_eq_some_iff.1 (h.ds D hD)).1 (fun e => by have := (hr D e.symm).1; have := hB D hD; omega)).trans (h.ds D hD)⟩
theorem ScM.mark (h : ScM w wr x E v Ds) {D : Nat} (hD : wr.heap[D]? = some (.deferred (some []))) : ScM w wr x E v (D :: Ds) :=
  ⟨h.bel, h.p, h.c, h.f9, h.f10, h.g, h.row, h.low, fun D' hD' => by
    rcases List.mem_cons.1 hD' with e | e
    · rw [e]; exact hD
    · exact h.ds D' e⟩
theorem ScM.shape (h : ScM w wr x E v Ds) : ∃ o c, v = .slice o E.length c := by
  obtain ⟨o, c, h1, _⟩ := ownsRow_shapeQ h.row
  exact ⟨o, c, h1⟩
/-- One edge more. -/
theorem ScM.push (h : ScM w wr x E v Ds) (e : Ed) (hl : E.length ≤ 1000) (ty : TypeId) :
    ∃ o' c' w', (Builtin.append_ #[51, 51] ty #[v, .slice (some ⟨wr.heap.size, 0, none⟩) 1 1]).run Try.prog (wr.alloc (.cells #[.int .i64 (e.f : Nat), .int .i64 (e.t : Nat), .int .i64 e.c] 55)) = .ok (.slice o' (E.length + 1) c') w' ∧
      (∀ B t cs, Blk wr B t cs → t ≠ 55 → Blk w' B t cs) ∧ Below w.heap.size wr (w'.setCell ⟨x.G, 1, none⟩ (.slice o' (E.length + 1) c')) ∧ KeepsOthers wr (w'.setCell ⟨x.G, 1, none⟩ (.slice o' (E.length + 1) c')) ∧ ScM w (w'.setCell ⟨x.G, 1, none⟩ (.slice o' (E.length + 1) c')) x (E ++ [e]) (.slice o' (E.length + 1) c') Ds := by
  obtain ⟨ii, z, hi, hz, h2, h3, h4⟩ := elemE.info
  have hsz := h.bel.size
  obtain ⟨v', w', hr, hown, hgrow, _, hat⟩ := run_append_own_at (P := Try.prog) (wr.alloc (.cells #[.int .i64 (e.f : Nat), .int .i64 (e.t : Nat), .int .i64 e.c] 55)) w.heap.size 51 ty 55 ii z 3 24 elemE.under hi hz h2 h3 h4 elemE.pos v E.length (flatE E) (h.row.alloc _) ⟨wr.heap.size, 0, none⟩ 1 1 [.int .i64 (e.f : Nat), .int .i64 (e.t : Nat), .int .i64 e.c] rfl
    (by
      intro j u hj
      have := (Blk.new wr 55 #[.int .i64 (e.f : Nat), .int .i64 (e.t : Nat), .int .i64 e.c]).cell j
      rw [Addr.add_lit, Nat.zero_add]
      exact this.trans (by simpa using hj)) (oneI3 _ _ _) (by simp only [maxLen]; omega) (by omega) (by rw [World.size_alloc]; omega)
  obtain ⟨o', c', rfl, _⟩ := ownsRow_shapeQ hown
  have hba : Below wr.heap.size wr (wr.alloc (.cells #[.int .i64 (e.f : Nat), .int .i64 (e.t : Nat), .int .i64 e.c] 55)) := below_alloc (Below.refl _ _) _
  have hkeep : ∀ B t cs, Blk wr B t cs → t ≠ 55 → Blk w' B t cs := fun B t cs hB ht =>
    (hgrow.block B (hB.alloc _).lt (fun e2 => Blk.not_row hB ht h.row e2.symm)).trans (hB.alloc _)
  have hob : ∀ b, v.ownBlock = some b → w.heap.size ≤ b := fun b e2 => (h.row.lt b e2).1
  have hgw := hkeep _ _ _ h.g (by decide)
  have hnG : (Value.slice o' (E.length + 1) c').ownBlock ≠ some x.G := Blk.not_row hgw (by decide) hown
  have hks : KeepsOthers wr w' := ⟨Nat.le_trans hba.size hgrow.size, fun k o hk ho => by
    have h0 := (Array.getElem?_eq_some_iff.1 hk).1
    refine (hgrow.block k (by rw [World.size_alloc]; omega) (fun e2 => ?_)).trans ((hba.block k h0).trans hk)
    rcases h.row.2 with ⟨rfl, _⟩ | ⟨g, cap, cur, rfl, _, hgb, _⟩
    · cases e2
    · have e3 : k = g := by simpa [Value.ownBlock] using e2
      subst e3
      rw [hgb] at hk
      cases hk
      cases ho⟩
  have hks2 : KeepsOthers w' (w'.setCell ⟨x.G, 1, none⟩ (.slice o' (E.length + 1) c')) := keeps_agr ((Agr.refl w' [x.G]).set (List.mem_singleton.2 rfl)) (cells_of hgw)
  have hbw : Below w.heap.size wr w' := (hba.mono h.bel.size).grown hgrow (by rw [World.size_alloc]; omega) hob
  refine ⟨o', c', w', hr, hkeep, hbw.setCell h.low.2.2.2.2 _, hks.trans hks2, ?_⟩
  refine ⟨(h.bel.trans hbw).setCell h.low.2.2.2.2 _, (hkeep _ _ _ h.p (by decide)).other (p := ⟨x.G, 1, none⟩) (Blk.ne h.p h.g (by decide)) _, (hkeep _ _ _ h.c (by decide)).other (p := ⟨x.G, 1, none⟩) (Blk.ne h.c h.g (by decide)) _, (hkeep _ _ _ h.f9 (by decide)).other (p := ⟨x.G, 1, none⟩) (Blk.ne h.f9 h.g (by decide)) _, (hkeep _ _ _ h.f10 (by decide)).other (p := ⟨x.G, 1, none⟩) (Blk.ne h.f10 h.g (by decide)) _, by have := hgw.set 1 (.slice o' (E.length + 1) c'); simpa using this, ?_, h.low, fun D hD => (hks.trans hks2).same D _ (h.ds D hD) rfl⟩
  rw [List.length_append]
  exact ownsRow_setCell_other (a := ⟨x.G, 1, none⟩) (ownsRow_cast hown rfl (flatE_snoc E e).symm) hnG _
/-- The edges, as Most reads them. -/
theorem ScM.eds (h : ScM w wr x E v Ds) {o : Option Addr} {c : Nat} (hv : v = .slice o E.length c) : EdsS [] wr o E := fun i hi => by
  subst hv
  have hg := flatE_get hi
  obtain ⟨g, rfl, _, c0⟩ := ownsRow_cellQ h.row hg.1
  obtain ⟨g1, e1, _, c1⟩ := ownsRow_cellQ h.row hg.2.1
  obtain ⟨g2, e2, _, c2⟩ := ownsRow_cellQ h.row hg.2.2
  cases e1
  cases e2
  exact ⟨g, 0, rfl, by simp, by rw [Nat.zero_add]; exact c0, by rw [Nat.zero_add]; exact c1, by rw [Nat.zero_add]; exact c2⟩
end
/-- Energies up to a job. -/
theorem need_le {J : List Jb} {S : List Int} (hv : ValidP J S) : ∀ k, k ≤ J.length → 0 ≤ sumN k (fun i => (getJ J i).e) ∧ sumN k (fun i => (getJ J i).e) ≤ 1000 * k
  | 0, _ => ⟨Int.le_refl _, Int.le_refl _⟩
  | k + 1, h => by
    have := need_le hv k (by omega)
    have hj := hv.j _ (getJ_mem (i := k) (by omega))
    have h1 := hj.e0
    have h2 := hj.e1
    show 0 ≤ sumN k _ + (getJ J k).e ∧ sumN k _ + (getJ J k).e ≤ _
    omega
end Go.Proofs.Ythgkfdhkmkbioaa
