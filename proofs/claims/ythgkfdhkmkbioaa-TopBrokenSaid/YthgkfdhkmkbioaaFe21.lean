/- Package flow: search. -/
import Derived.Test.YthgkfdhkmkbioaaFd21
namespace Go.Proofs.Ythgkfdhkmkbioaa
open Go.RowKit Go.Shelf
attribute [local go_sem] Oper.semAt_some

theorem blk_turn {W W' : World} {B : Nat} {t : TypeId} {cs : Array Value} {row : Option Nat} (h : Blk W B t cs) (hg : W.grownBy W' row) (hr : ∀ r, row = some r → ∃ o : Obj, W.heap[r]? = some o ∧ o.isCells = false) : Blk W' B t cs :=
  (hg.block B h.lt (fun e => by obtain ⟨o, ho, hc⟩ := hr B e.symm; rw [show W.heap[B]? = _ from h] at ho; cases ho; cases hc)).trans h
theorem ownsRow_turn {W W' : World} {base : Nat} {e : TypeId} {size : Nat} {v : Value} {n : Nat} {xs : List Value} {row : Option Nat} (h : W.ownsRow base e size v n xs) (hg : W.grownBy W' row) (hr : ∀ r, row = some r → ∃ o : Obj, W.heap[r]? = some o ∧ o.isCells = false) : W'.ownsRow base e size v n xs := by
  refine h.kept (row := row) hg ?_
  rcases h.2 with ⟨rfl, _⟩ | ⟨g, cap, cur, rfl, _, hgg, _⟩
  · exact .inl rfl
  · right
    intro e'
    obtain ⟨o, ho, hc⟩ := hr g e'.symm
    rw [hgg] at ho
    cases ho
    cases hc
theorem Blk.not_row {W : World} {B : Nat} {t e : TypeId} {cs : Array Value} (h : Blk W B t cs) (hte : t ≠ e) {base size k : Nat} {v : Value} {xs : List Value} (hr : W.ownsRow base e size v k xs) : v.ownBlock ≠ some B := by
  rcases hr.2 with ⟨rfl, _⟩ | ⟨g, cap, cur, rfl, _, hgb, _⟩
  · simp [Value.ownBlock]
  · intro e'
    obtain rfl : B = g := by simpa [Value.ownBlock] using e'.symm
    have := (show W.heap[B]? = _ from h).symm.trans hgb
    simp at this
    exact hte this.2
theorem Blk.ne {W : World} {a b : Nat} {t t' : TypeId} {cs cs' : Array Value} (h : Blk W a t cs) (h' : Blk W b t' cs') (hne : t ≠ t') : a ≠ b := fun e => by
  subst e
  have := (show W.heap[a]? = _ from h).symm.trans h'
  simp at this
  exact hne this.2
theorem Blk.ne_mark {W : World} {a D : Nat} {t : TypeId} {cs : Array Value} {x : Option (List Deferred)} (h : Blk W a t cs) (h' : W.heap[D]? = some (.deferred x)) : D ≠ a := fun e => by
  subst e
  have := (show W.heap[D]? = _ from h).symm.trans h'
  cases this
/-- The memory of search. -/
structure SeM (w wr : World) (N t SB BB S8 S9 QB : Nat) (X : List Nat) (sc bc : Array Value) (l : List Nat) (head : Nat) (Ds : List Nat) : Prop where
  bel : Below w.heap.size w wr
  b5 : Blk wr w.heap.size 3 #[.int .i64 (t : Nat)]
  b8 : Blk wr S8 60 #[.slice (some ⟨SB, 0, none⟩) N N]
  b9 : Blk wr S9 82 #[.slice (some ⟨BB, 0, none⟩) N N]
  sb : Blk wr SB 4 sc
  bb : Blk wr BB 107 bc
  qu : ∃ v, QueM wr (QB + 1) QB (natI l) ((head : Nat) : Int) v ∧ ∀ b, v.ownBlock = some b → b ∉ X
  lo : w.heap.size < SB ∧ w.heap.size < BB ∧ w.heap.size < S8 ∧ w.heap.size < S9 ∧ w.heap.size < QB
  ds : ∀ D ∈ Ds, wr.heap[D]? = some (.deferred (some []))
section
variable {w wr wr' : World} {N t SB BB S8 S9 QB head : Nat} {sc bc : Array Value} {l Ds X : List Nat}
theorem SeM.later (h : SeM w wr N t SB BB S8 S9 QB X sc bc l head Ds) (hb : Below wr.heap.size wr wr') : SeM w wr' N t SB BB S8 S9 QB X sc bc l head Ds :=
  ⟨below_step h.bel hb, h.b5.later hb, h.b8.later hb, h.b9.later hb, h.sb.later hb, h.bb.later hb, by obtain ⟨v, hv, hx⟩ := h.qu; exact ⟨v, hv.later hb, hx⟩, h.lo, fun D hD => (hb.block D (Array.getElem?_eq_some_iff.1 (h.ds D hD)).1).trans (h.ds D hD)⟩
theorem SeM.turn {B : Nat} {row : Option Nat} (h : SeM w wr N t SB BB S8 S9 QB X sc bc l head Ds) (hB : ∀ D ∈ Ds, D < B) (hw : w.heap.size ≤ B) (hg : wr.grownBy wr' row) (hr : ∀ r, row = some r → B ≤ r ∧ ∃ o : Obj, wr.heap[r]? = some o ∧ o.isCells = false) : SeM w wr' N t SB BB S8 S9 QB X sc bc l head Ds :=
  have hr2 := fun r e => (hr r e).2
  ⟨h.bel.grown hg h.bel.size (fun k e => Nat.le_trans hw (hr k e).1), blk_turn h.b5 hg hr2, blk_turn h.b8 hg hr2, blk_turn h.b9 hg hr2, blk_turn h.sb hg hr2, blk_turn h.bb hg hr2,
    by obtain ⟨v, hv, hx⟩ := h.qu; exact ⟨v, ⟨blk_turn hv.blk hg hr2, ownsRow_turn hv.row hg hr2, hv.lt, Nat.le_trans hv.le hg.size⟩, hx⟩, h.lo,
    fun D hD => (hg.block D (Array.getElem?_eq_some_iff.1 (h.ds D hD)).1 (fun e => by have := (hr D e.symm).1; have := hB D hD; omega)).trans (h.ds D hD)⟩
theorem SeM.taken (h : SeM w wr N t SB BB S8 S9 QB X sc bc l head []) {D : Nat} (hD : wr.heap[D]? = some (.deferred (some []))) (hl : w.heap.size ≤ D) : SeM w (wr.putObj D (.deferred none)) N t SB BB S8 S9 QB X sc bc l head [] :=
  h.turn (B := w.heap.size) (fun _ h => by cases h) (Nat.le_refl _) (grownBy_putObj' wr D _) (fun r e => by cases e; exact ⟨hl, _, hD, rfl⟩)
theorem QueM.set_other {base Q : Nat} {l : List Int} {hd : Int} {v u : Value} {p : Addr} (h : QueM wr base Q l hd v) (hq : Q ≠ p.block) (hr : v.ownBlock ≠ some p.block) : QueM (wr.setCell p u) base Q l hd v :=
  ⟨h.blk.other hq u, ownsRow_setCell_other h.row hr u, h.lt, by rw [World.size_setCell]; exact h.le⟩
theorem SeM.setS (h : SeM w wr N t SB BB S8 S9 QB X sc bc l head Ds) (i : Nat) (u : Value) : SeM w (wr.setCell ⟨SB, i, none⟩ u) N t SB BB S8 S9 QB X (sc.setIfInBounds i u) bc l head Ds :=
  ⟨h.bel.setCell (Nat.le_of_lt h.lo.1) u, h.b5.other (p := ⟨SB, i, none⟩) (Blk.ne h.b5 h.sb (by decide)) u, h.b8.other (p := ⟨SB, i, none⟩) (Blk.ne h.b8 h.sb (by decide)) u, h.b9.other (p := ⟨SB, i, none⟩) (Blk.ne h.b9 h.sb (by decide)) u, h.sb.set i u, h.bb.other (p := ⟨SB, i, none⟩) (Blk.ne h.bb h.sb (by decide)) u,
    by obtain ⟨v, hv, hx⟩ := h.qu; exact ⟨v, hv.set_other (p := ⟨SB, i, none⟩) (Blk.ne hv.blk h.sb (by decide)) (Blk.not_row h.sb (by decide) hv.row), hx⟩, h.lo,
    fun D hD => (Below.heap_setCell wr ⟨SB, i, none⟩ u D (Blk.ne_mark h.sb (h.ds D hD))).trans (h.ds D hD)⟩
theorem SeM.setB (h : SeM w wr N t SB BB S8 S9 QB X sc bc l head Ds) (i : Nat) (u : Value) : SeM w (wr.setCell ⟨BB, i, none⟩ u) N t SB BB S8 S9 QB X sc (bc.setIfInBounds i u) l head Ds :=
  ⟨h.bel.setCell (Nat.le_of_lt h.lo.2.1) u, h.b5.other (p := ⟨BB, i, none⟩) (Blk.ne h.b5 h.bb (by decide)) u, h.b8.other (p := ⟨BB, i, none⟩) (Blk.ne h.b8 h.bb (by decide)) u, h.b9.other (p := ⟨BB, i, none⟩) (Blk.ne h.b9 h.bb (by decide)) u, h.sb.other (p := ⟨BB, i, none⟩) (Blk.ne h.sb h.bb (by decide)) u, h.bb.set i u,
    by obtain ⟨v, hv, hx⟩ := h.qu; exact ⟨v, hv.set_other (p := ⟨BB, i, none⟩) (Blk.ne hv.blk h.bb (by decide)) (Blk.not_row h.bb (by decide) hv.row), hx⟩, h.lo,
    fun D hD => (Below.heap_setCell wr ⟨BB, i, none⟩ u D (Blk.ne_mark h.bb (h.ds D hD))).trans (h.ds D hD)⟩
theorem SeM.agr {S : List Nat} (h : SeM w wr N t SB BB S8 S9 QB X sc bc l head Ds) {v : Value} (hv : QueM wr (QB + 1) QB (natI l) ((head : Nat) : Int) v) (ha : Agr wr wr' S) (hS : ∀ b ∈ S, b = QB ∨ v.ownBlock = some b) {l' : List Nat} {head' : Nat} (hq : ∃ v', QueM wr' (QB + 1) QB (natI l') ((head' : Nat) : Int) v' ∧ ∀ b, v'.ownBlock = some b → b ∉ X) : SeM w wr' N t SB BB S8 S9 QB X sc bc l' head' Ds := by
  have hob : ∀ b, v.ownBlock = some b → QB + 1 ≤ b := fun b e => (hv.row.lt b e).1
  have no : ∀ {g : Nat} {t : TypeId} {cs : Array Value}, Blk wr g t cs → t ≠ 100 → t ≠ 3 → g ∉ S := fun hb h1 h2 hm => by
    rcases hS _ hm with e | e
    · exact Blk.ne hb hv.blk h1 e
    · exact Blk.not_row hb h2 hv.row e
  refine ⟨ha.below h.bel (fun b hb => ?_), ha.blk h.b5 (fun hm => ?_), ha.blk h.b8 (no h.b8 (by decide) (by decide)), ha.blk h.b9 (no h.b9 (by decide) (by decide)), ha.blk h.sb (no h.sb (by decide) (by decide)), ha.blk h.bb (no h.bb (by decide) (by decide)), hq, h.lo, fun D hD => (ha.block D (Array.getElem?_eq_some_iff.1 (h.ds D hD)).1 (fun hm => ?_)).trans (h.ds D hD)⟩
  · have := h.lo.2.2.2.2
    rcases hS b hb with e | e
    · omega
    · have := hob b e; omega
  · have := h.lo.2.2.2.2
    rcases hS _ hm with e | e
    · omega
    · have := hob _ e; omega
  · rcases hS _ hm with e | e
    · exact Blk.ne_mark hv.blk (h.ds D hD) e
    · obtain ⟨g, hg⟩ : ∃ g, v.ownBlock = some g := ⟨_, e⟩
      rcases hv.row.2 with ⟨rfl, _⟩ | ⟨g, cap, cur, rfl, _, hgb, _⟩
      · cases e
      · have e2 : g = D := by simpa [Value.ownBlock] using e
        subst e2
        have := (h.ds g hD).symm.trans hgb
        cases this
theorem SeM.pushed (h : SeM w wr N t SB BB S8 S9 QB X sc bc l head Ds) {v : Value} (hv : QueM wr (QB + 1) QB (natI l) ((head : Nat) : Int) v) (hX : ∀ b, v.ownBlock = some b → b ∉ X) (hx : ∀ b ∈ X, b < wr.heap.size) {l' : List Nat} (hq : ∃ v', QueM wr' (QB + 1) QB (natI l') ((head : Nat) : Int) v' ∧ (v'.ownBlock = v.ownBlock ∨ v'.ownBlock = some (wr.heap.size + 1))) (ha : Agr wr wr' (QB :: v.ownBlock.toList)) : SeM w wr' N t SB BB S8 S9 QB X sc bc l' head Ds :=
  h.agr hv ha (fun b hb => by
    rcases List.mem_cons.1 hb with e | e
    · exact .inl e
    · exact .inr (by simpa using e)) (by
    obtain ⟨v', h1, h2⟩ := hq
    refine ⟨v', h1, fun b hb => ?_⟩
    rcases h2 with e | e
    · exact hX b (by rw [← e]; exact hb)
    · rw [e] at hb
      cases hb
      intro hm
      have := hx _ hm
      omega)
theorem SeM.fence (h : SeM w wr N t SB BB S8 S9 QB [] sc bc l head Ds) (hX : ∀ b ∈ X, wr.heap.size ≤ b) : SeM w wr N t SB BB S8 S9 QB X sc bc l head Ds :=
  ⟨h.bel, h.b5, h.b8, h.b9, h.sb, h.bb, by obtain ⟨v, hv, _⟩ := h.qu; exact ⟨v, hv, fun b hb hm => by have := (hv.row.lt b hb).2; have := hX b hm; omega⟩, h.lo, h.ds⟩
theorem SeM.free (h : SeM w wr N t SB BB S8 S9 QB X sc bc l head Ds) : SeM w wr N t SB BB S8 S9 QB [] sc bc l head Ds :=
  ⟨h.bel, h.b5, h.b8, h.b9, h.sb, h.bb, by obtain ⟨v, hv, _⟩ := h.qu; exact ⟨v, hv, fun b hb hm => (by cases hm)⟩, h.lo, h.ds⟩
theorem SeM.mark (h : SeM w wr N t SB BB S8 S9 QB X sc bc l head Ds) {D : Nat} (hD : wr.heap[D]? = some (.deferred (some []))) : SeM w wr N t SB BB S8 S9 QB X sc bc l head (D :: Ds) :=
  ⟨h.bel, h.b5, h.b8, h.b9, h.sb, h.bb, h.qu, h.lo, fun D' hD' => by
    rcases List.mem_cons.1 hD' with e | e
    · rw [e]; exact hD
    · exact h.ds D' e⟩
theorem SeM.hd (h : SeM w wr N t SB BB S8 S9 QB X sc bc l head Ds) : wr.cell? ⟨QB, 1, none⟩ = some (.int .i64 ((head : Nat) : Int)) := by
  obtain ⟨v, hv, _⟩ := h.qu
  exact hv.blk.cell 1
end
theorem keeps_agr {W W' : World} {S : List Nat} (ha : Agr W W' S) (hS : ∀ b ∈ S, ∀ o : Obj, W.heap[b]? = some o → o.isCells = true) : KeepsOthers W W' :=
  ⟨ha.size, fun k o hk ho => (ha.block k (Array.getElem?_eq_some_iff.1 hk).1 (fun hm => by have := hS k hm o hk; rw [this] at ho; cases ho)).trans hk⟩
theorem que_cells {W : World} {base Q : Nat} {l : List Int} {hd : Int} {v : Value} (h : QueM W base Q l hd v) : ∀ b ∈ (Q :: v.ownBlock.toList), ∀ o : Obj, W.heap[b]? = some o → o.isCells = true := fun b hb o ho => by
  rcases List.mem_cons.1 hb with e | e
  · subst e
    have := (show W.heap[b]? = _ from h.blk).symm.trans ho
    cases this
    rfl
  · have e2 : v.ownBlock = some b := by simpa using e
    rcases h.row.2 with ⟨rfl, _⟩ | ⟨g, cap, cur, rfl, _, hgb, _⟩
    · cases e2
    · have e3 : g = b := by simpa [Value.ownBlock] using e2
      subst e3
      have := hgb.symm.trans ho
      cases this
      rfl
theorem cells_of {W : World} {B : Nat} {t : TypeId} {cs : Array Value} (h : Blk W B t cs) : ∀ b ∈ [B], ∀ o : Obj, W.heap[b]? = some o → o.isCells = true := fun b hb o ho => by
  rw [List.mem_singleton.1 hb] at ho
  have := (show W.heap[B]? = _ from h).symm.trans ho
  cases this
  rfl
theorem stpsC_at (l : List Stp) (i : Nat) : (stpsC l)[i]? = (flatS l)[i]? := by simp [stpsC]
theorem mem_of_getD {l : List Nat} {i v : Nat} (h : i < l.length ∧ l.getD i 0 = v) : v ∈ l := by
  rw [← h.2, List.getD_eq_getElem?_getD, List.getElem?_eq_getElem h.1]
  exact List.getElem_mem h.1
theorem belowN {w w' : World} {S : List Nat} {n : Nat} (h : Agr w w' S) (hS : ∀ b ∈ S, n ≤ b) (hn : n ≤ w.heap.size) : Below n w w' :=
  ⟨h.os, h.tape, h.output, h.size, fun k hk => h.block k (Nat.lt_of_lt_of_le hk hn) (fun hm => Nat.lt_irrefl _ (Nat.lt_of_lt_of_le hk (hS k hm)))⟩
theorem sub_lt_of {d L N : Nat} (h : d < L) (hl : L ≤ N) : N - (d + 1) < N - d := by omega
/-- A slice that is made (operation m), a variable for it (operation a), and the store (operation st), in whatever order. -/
structure Mk (w wr : World) (rest : List Nat) (m a st N : Nat) (te ts : TypeId) (cs : Array Value) (x y : Value) : Prop where
  s : m ∉ rest → ∃ B, w.heap.size ≤ B ∧ x = .slice (some ⟨B, 0, none⟩) N N ∧ Blk wr B te cs
  p : a ∉ rest → ∃ S, w.heap.size ≤ S ∧ y = .pointer (some ⟨S, 0, none⟩) ∧ (st ∈ rest → Blk wr S ts #[.slice none 0 0]) ∧ (st ∉ rest → Blk wr S ts #[x])
  o : st ∉ rest → m ∉ rest ∧ a ∉ rest
section
variable {w wr wr' : World} {rest : List Nat} {m a st N : Nat} {te ts : TypeId} {cs : Array Value} {x y : Value}
theorem Mk.later (h : Mk w wr rest m a st N te ts cs x y) (hb : Below wr.heap.size wr wr') : Mk w wr' rest m a st N te ts cs x y :=
  ⟨fun hm => by obtain ⟨B, h1, h2, h3⟩ := h.s hm; exact ⟨B, h1, h2, h3.later hb⟩, fun ha => by obtain ⟨S, h1, h2, h3, h4⟩ := h.p ha; exact ⟨S, h1, h2, fun hh => (h3 hh).later hb, fun hh => (h4 hh).later hb⟩, h.o⟩
theorem not_erase {d c : Nat} (h : d ∉ rest.erase c) (hne : d ≠ c) : d ∉ rest := fun hm => h ((List.mem_erase_of_ne hne).2 hm)
theorem Mk.other {c : Nat} (h : Mk w wr rest m a st N te ts cs x y) (h1 : m ≠ c) (h2 : a ≠ c) (h3 : st ≠ c) : Mk w wr (rest.erase c) m a st N te ts cs x y :=
  ⟨fun hm => h.s (not_erase hm h1), fun ha => by obtain ⟨S, g1, g2, g3, g4⟩ := h.p (not_erase ha h2); exact ⟨S, g1, g2, fun hh => g3 (List.mem_of_mem_erase hh), fun hh => g4 (not_erase hh h3)⟩, fun hs => ⟨fun hh => (h.o (not_erase hs h3)).1 (List.mem_of_mem_erase hh), fun hh => (h.o (not_erase hs h3)).2 (List.mem_of_mem_erase hh)⟩⟩
theorem Mk.st_in (h : Mk w wr rest m a st N te ts cs x y) (hm : m ∈ rest ∨ a ∈ rest) : st ∈ rest := Decidable.byContradiction fun hc => hm.elim (h.o hc).1 (h.o hc).2
theorem Mk.made (h : Mk w wr rest m a st N te ts cs x y) (hw : w.heap.size ≤ wr.heap.size) (_hn : rest.Nodup) (hm : m ∈ rest) (h2 : a ≠ m) (h3 : st ≠ m) : Mk w (wr.alloc (.cells cs te)) (rest.erase m) m a st N te ts cs (.slice (some ⟨wr.heap.size, 0, none⟩) N N) y := by
  have hl := h.later (below_alloc (Below.refl _ _) (.cells cs te))
  have hst := h.st_in (.inl hm)
  have hst2 : st ∈ rest.erase m := (List.mem_erase_of_ne h3).2 hst
  refine ⟨fun _ => ⟨wr.heap.size, hw, rfl, Blk.new ..⟩, fun ha => ?_, fun hc => absurd hst2 hc⟩
  obtain ⟨S, g1, g2, g3, _⟩ := hl.p (not_erase ha h2)
  exact ⟨S, g1, g2, fun _ => g3 hst, fun hc => absurd hst2 hc⟩
theorem Mk.box (h : Mk w wr rest m a st N te ts cs x y) (hw : w.heap.size ≤ wr.heap.size) (_hn : rest.Nodup) (ha : a ∈ rest) (h1 : m ≠ a) (h3 : st ≠ a) : Mk w (wr.alloc (.cells #[.slice none 0 0] ts)) (rest.erase a) m a st N te ts cs x (.pointer (some ⟨wr.heap.size, 0, none⟩)) := by
  have hl := h.later (below_alloc (Below.refl _ _) (.cells #[.slice none 0 0] ts))
  have hst := h.st_in (.inr ha)
  have hst2 : st ∈ rest.erase a := (List.mem_erase_of_ne h3).2 hst
  exact ⟨fun hm => hl.s (not_erase hm h1), fun _ => ⟨wr.heap.size, hw, rfl, fun _ => Blk.new .., fun hc => absurd hst2 hc⟩, fun hc => absurd hst2 hc⟩
theorem Mk.keep {S' i : Nat} {t' : TypeId} {cs' : Array Value} (u : Value) (h : Mk w wr rest m a st N te ts cs x y) (hb : Blk wr S' t' cs') (h1 : te ≠ t') (h2 : ts ≠ t') : Mk w (wr.setCell ⟨S', i, none⟩ u) rest m a st N te ts cs x y :=
  ⟨fun hm => by obtain ⟨B, g1, g2, g3⟩ := h.s hm; exact ⟨B, g1, g2, g3.other (p := ⟨S', i, none⟩) (Blk.ne g3 hb h1) u⟩, fun ha => by obtain ⟨S, g1, g2, g3, g4⟩ := h.p ha; exact ⟨S, g1, g2, fun hh => (g3 hh).other (p := ⟨S', i, none⟩) (Blk.ne (g3 hh) hb h2) u, fun hh => (g4 hh).other (p := ⟨S', i, none⟩) (Blk.ne (g4 hh) hb h2) u⟩, h.o⟩
theorem Mk.stored {S : Nat} (h : Mk w wr rest m a st N te ts cs x (.pointer (some ⟨S, 0, none⟩))) (hn : rest.Nodup) (hm : m ∉ rest) (ha : a ∉ rest) (hb : Blk wr S ts #[.slice none 0 0]) (hS : w.heap.size ≤ S) (hne : te ≠ ts) : Mk w (wr.setCell ⟨S, 0, none⟩ x) (rest.erase st) m a st N te ts cs x (.pointer (some ⟨S, 0, none⟩)) := by
  have hst : st ∉ rest.erase st := hn.not_mem_erase
  refine ⟨fun _ => ?_, fun _ => ⟨S, hS, rfl, fun hc => absurd hc hst, fun _ => hb.set 0 x⟩, fun _ => ⟨fun hc => hm (List.mem_of_mem_erase hc), fun hc => ha (List.mem_of_mem_erase hc)⟩⟩
  obtain ⟨B, g1, g2, g3⟩ := h.s hm
  exact ⟨B, g1, g2, g3.other (p := ⟨S, 0, none⟩) (Blk.ne g3 hb hne) x⟩
end
/-- The blocks of search, while they are made in any order. -/
structure SeR (w wr : World) (N : Nat) (rest : List Nat) (x19 x25 x8 x9 : Value) : Prop where
  bel : Below w.heap.size w wr
  s : Mk w wr rest 5 12 14 N 4 60 (boolsC (List.replicate N false)) x19 x8
  b : Mk w wr rest 11 13 15 N 107 82 (stpsC (List.replicate N Stp.zero)) x25 x9
theorem natI_snoc (l : List Nat) (x : Nat) : natI l ++ [((x : Nat) : Int)] = natI (l ++ [x]) := by simp [natI]
theorem natI_length (l : List Nat) : (natI l).length = l.length := by simp [natI]
theorem natI_get {l : List Nat} {i : Nat} (h : i < l.length) : (natI l).getD i 0 = ((l.getD i 0 : Nat) : Int) := by simp [natI, h]
theorem stepC_val {P : Program} {o : Oper} {V : Act} {K : Act → World → Prop} {w w' : World} {v : Value} (hr : (execOp V.eval o).run P w = .ok (.value v) w') (h : K (V.put o.dst v) w') : StepC P o V K ((execOp V.eval o).run P w) := by rw [hr]; exact h
theorem stepC_skip {P : Program} {o : Oper} {V : Act} {K : Act → World → Prop} {w w' : World} (hd : o.dst = none) (hr : (execOp V.eval o).run P w = .ok .skip w') (h : K V w') : StepC P o V K ((execOp V.eval o).run P w) := by
  rw [hr]
  show K (V.put o.dst undef) w'
  rw [hd]
  exact h
theorem run_makeN {P : Program} (t e : TypeId) (z : Value) (size bytes : Nat) (ht : P.underlying t = some (.slice e)) (hinfo : (P.info? e).map (fun i => (i.zero, i.size, i.bytes)) = some (some z, size, bytes)) (n : Nat) (hbytes : bytes * n ≤ 281474976710656) (h63 : n ≤ 9223372036854775807) (w : World) :
    (Instr.makeSlice t (.int .i64 (n : Int)) (.int .i64 (n : Int))).run P w = .ok (.slice (some ⟨w.heap.size, 0, none⟩) n n) (w.alloc (.cells (madeCells z.cells (n * size)) e)) := by
  obtain ⟨i, hi, hzz⟩ := Option.map_eq_some_iff.1 hinfo
  simp only [Prod.mk.injEq] at hzz
  obtain ⟨hz, hs, hb⟩ := hzz
  have hb' : (i.bytes : Int) * (n : Int) ≤ 281474976710656 := by
    rw [hb]
    have h : ((bytes * n : Nat) : Int) ≤ 281474976710656 := by omega
    rwa [Int.natCast_mul] at h
  have hr := run_make (P := P) w t e i z ht hi hz .i64 .i64 n n (by omega) (Int.le_refl _) hb' (by omega)
  rw [Int.toNat_natCast, hs] at hr
  exact hr
theorem made_bools (n : Nat) : madeCells #[Value.bool false] n = boolsC (List.replicate n false) := by
  rw [← boolsC_zero]
  apply Array.ext
  · simp [madeCells]
  · intro i h1 h2
    simp [madeCells, Nat.mod_one]
theorem made_stps (n : Nat) : madeCells #[Value.int .i64 0, .int .i64 0, .int .i64 0, .bool false] (n * 4) = stpsC (List.replicate n Stp.zero) := by
  have hl : (flatS (List.replicate n Stp.zero)).length = n * 4 := by
    rw [flatS_zero, List.length_flatten]
    simp
  apply Array.ext
  · simp [madeCells, stpsC, hl]
  · intro i h1 h2
    have hi : i < n * 4 := by simpa [madeCells] using h1
    have hg := flatS_get (l := List.replicate n Stp.zero) (i := i / 4) (by rw [List.length_replicate]; omega)
    have hz : getS (List.replicate n Stp.zero) (i / 4) = Stp.zero := by
      unfold getS
      rw [List.getD_eq_getElem?_getD, List.getElem?_replicate]
      split <;> rfl
    rw [hz] at hg
    have e1 : (madeCells #[Value.int .i64 0, .int .i64 0, .int .i64 0, .bool false] (n * 4))[i] = #[Value.int .i64 0, .int .i64 0, .int .i64 0, .bool false][i % 4]! := by simp [madeCells]
    have e2 : some (stpsC (List.replicate n Stp.zero))[i] = (flatS (List.replicate n Stp.zero))[i]? := by simp [stpsC, hl, hi]
    rw [e1]
    apply Option.some.inj
    rw [e2]
    obtain ⟨q, hq⟩ : ∃ q, i / 4 = q := ⟨_, rfl⟩
    rw [hq] at hg
    rcases (by omega : i % 4 = 0 ∨ i % 4 = 1 ∨ i % 4 = 2 ∨ i % 4 = 3) with h | h | h | h
    · rw [h, show i = q * 4 by omega, hg.1]; rfl
    · rw [h, show i = q * 4 + 1 by omega, hg.2.1]; rfl
    · rw [h, show i = q * 4 + 2 by omega, hg.2.2.1]; rfl
    · rw [h, show i = q * 4 + 3 by omega, hg.2.2.2]; rfl

set_option maxRecDepth 100000 in
set_option maxHeartbeats 16000000 in
theorem search_any (w : World) (N : Nat) (E : List Ed) (NB FB AB : Nat) (eo : Option Addr) (ec : Nat) (fl : List Int) (s t : Nat) (hs : s < N) (_ht : t < N) (hst : s ≠ t) (hnet : NetW w N E NB FB AB eo ec) (hfb : Blk w FB 3 (intsC fl)) (hlen : E.length = fl.length) (hcap : ∀ i, i < E.length → 0 ≤ fl.getD i 0 ∧ fl.getD i 0 ≤ (getE E i).c) :
    Calls Try.prog 38 #[.pointer (some ⟨NB, 0, none⟩), .int .i64 (s : Nat), .int .i64 (t : Nat)] w (fun e w' => Below w.heap.size w w' ∧ ∃ SB BB seen by' rk, e = .returned (.tuple #[.slice (some ⟨SB, 0, none⟩) N N, .slice (some ⟨BB, 0, none⟩) N N]) ∧ w.heap.size ≤ SB ∧ w.heap.size ≤ BB ∧ Blk w' SB 4 (boolsC seen) ∧ Blk w' BB 107 (stpsC by') ∧ Reach E fl N s seen by' rk ∧ (seen.getD t false = false → Shut E fl (fun v => seen.getD v false))) := by
  have HNET := Lib.hid hnet
  have HFB := Lib.hid hfb
  have HLEN := Lib.hid hlen
  have HCAP := Lib.hid hcap
  have HSP : Hid (SeP E fl N s t _ _ [s] 0 _) := Lib.hid (SeP.start hs hst)
  have hN := hnet.n64
  have n0 : w.cell? ⟨NB, 0, none⟩ = some (.int .i64 (N : Nat)) := hnet.nb.cell 0
  clear hnet hfb hlen hcap
  obtain ⟨n, hn⟩ : ∃ n : Nat, 6 ≤ n := ⟨8, by omega⟩
  refine (callsIn_wide (n := n)).1 ?_
  refine callsIn_of_wp_marks Try.func38 rfl trivial ?_ rfl
  simp only [Try.ntmps38, List.size_toArray, List.length_cons, List.length_nil, Nat.reduceAdd, Nat.reduceSub, Array.replicate_succ, Array.replicate_zero, List.push_toArray, List.append_toArray, List.nil_append, List.cons_append]
  refine wpIn_wide.2 ?_
  go_wp2_with fail
  obtain ⟨W1, hW1⟩ : ∃ W, W = w.alloc (.cells #[.int .i64 (t : Nat)] 3) := ⟨_, rfl⟩
  have HS1 := Lib.hid (show w.heap.size < W1.heap.size by rw [hW1, World.size_alloc]; omega)
  have HB1 := Lib.hid (show Below w.heap.size w W1 by rw [hW1]; exact below_alloc (Below.refl _ _) _)
  have HT := Lib.hid (show Blk W1 w.heap.size 3 #[.int .i64 (t : Nat)] by rw [hW1]; exact Blk.new _ _ _)
  rw [← hW1]
  clear hW1
  replace n0 := cell_kept HB1.out n0
  have HN0 := Lib.hid (show ∀ w'', Below W1.heap.size W1 w'' → w''.cell? ⟨NB, 0, none⟩ = some (.int .i64 (N : Nat)) from fun w'' hw => cell_kept hw n0)
  refine wp_scope_straight ?_
  refine wp_seq_k (fun K1 hK1 => ?_)
  refine wp_region_maskF [5, 11, 12, 13, 14, 15] [true, true, true, true, true, false, true, true, true, true, true, false, false, false, false, false] (fun w'' => w''.cell? ⟨NB, 0, none⟩ = some (.int .i64 (N : Nat))) mixed (by kernel_rfl) ?_
  intro KR hR
  have HR := Lib.hid hR
  clear hR
  simp only [marked]
  apply wpM_val rfl
  · (intro w' hw'; go_simp; with_reducible rfl)
  simp only [Act.put, List.setIfInBounds_toArray, List.set_cons_zero, List.set_cons_succ]
  apply wpM_val rfl
  · (intro w' hw'; go_simp; with_reducible rfl)
  simp only [Act.put, List.setIfInBounds_toArray, List.set_cons_zero, List.set_cons_succ]
  apply wpM_val rfl
  · (intro w' hw'; go_simp; with_reducible rfl)
  simp only [Act.put, List.setIfInBounds_toArray, List.set_cons_zero, List.set_cons_succ]
  apply wpM_val rfl
  · (intro w' hw'; go_simp; with_reducible rfl)
  simp only [Act.put, List.setIfInBounds_toArray, List.set_cons_zero, List.set_cons_succ]
  apply wpM_val rfl
  · (intro w' hw'; obtain c0 := hw'; go_simp; with_reducible rfl)
  simp only [Act.put, List.setIfInBounds_toArray, List.set_cons_zero, List.set_cons_succ]
  apply wpM_val rfl
  · (intro w' hw'; go_simp; with_reducible rfl)
  simp only [Act.put, List.setIfInBounds_toArray, List.set_cons_zero, List.set_cons_succ]
  apply wpM_val rfl
  · (intro w' hw'; go_simp; with_reducible rfl)
  simp only [Act.put, List.setIfInBounds_toArray, List.set_cons_zero, List.set_cons_succ]
  apply wpM_val rfl
  · (intro w' hw'; go_simp; with_reducible rfl)
  simp only [Act.put, List.setIfInBounds_toArray, List.set_cons_zero, List.set_cons_succ]
  apply wpM_val rfl
  · (intro w' hw'; go_simp; with_reducible rfl)
  simp only [Act.put, List.setIfInBounds_toArray, List.set_cons_zero, List.set_cons_succ]
  apply wpM_val rfl
  · (intro w' hw'; obtain c0 := hw'; go_simp; with_reducible rfl)
  simp only [Act.put, List.setIfInBounds_toArray, List.set_cons_zero, List.set_cons_succ]
  refine wpM_nil (HR.out _ ?_)
  clear HR
  have HMK5 := Lib.hid (run_makeN (P := Try.prog) 60 4 (.bool false) 1 1 Try.underlying60 (by kernel_rfl) N (by omega) (by omega))
  have HMK11 := Lib.hid (run_makeN (P := Try.prog) 82 107 (.agg #[.int .i64 0, .int .i64 0, .int .i64 0, .bool false]) 4 32 Try.underlying82 (by kernel_rfl) N (by omega) (by omega))
  have HR0 : Hid (SeR W1 W1.drew N [5, 11, 12, 13, 14, 15] undef undef undef undef) := Lib.hid ⟨(Below.refl _ _).drew, ⟨fun h => absurd (by decide) h, fun h => absurd (by decide) h, fun h => absurd (by decide) h⟩, ⟨fun h => absurd (by decide) h, fun h => absurd (by decide) h, fun h => absurd (by decide) h⟩⟩
  refine wpF_inv (fun rest V wr => ∃ x19 x25 x8 x9, V = ({ tmps := #[.pointer (some ⟨NB, 0, none⟩), .int .i64 (s : Nat), .int .i64 (t : Nat), undef, undef, .pointer (some ⟨w.heap.size, 0, none⟩), .slice none 0 0, .slice none 0 0, x8, x9, undef, undef, undef, undef, .pointer (some ⟨NB, 0, none⟩), .pointer (some ⟨NB, 0, none⟩), .pointer (some ⟨NB, 0, none⟩), .pointer (some ⟨NB, 0, none⟩), .int .i64 (N : Nat), x19, .pointer (some ⟨NB, 0, none⟩), .pointer (some ⟨NB, 0, none⟩), .pointer (some ⟨NB, 0, none⟩), .pointer (some ⟨NB, 0, none⟩), .int .i64 (N : Nat), x25, undef, undef, undef, undef, undef, undef, undef, undef, undef, undef, undef, undef, undef, undef, undef, undef, undef, undef, undef, undef, undef, undef, undef, undef, undef, undef, undef, undef, undef, undef, undef, undef, undef, undef, undef, undef, undef, undef], defers := [] } : Act) ∧ SeR W1 wr N rest x19 x25 x8 x9) [5, 11, 12, 13, 14, 15] ?J ?step ?fin _ _ _ _ rfl (by decide) (fun _ h => h) ⟨undef, undef, undef, undef, rfl, HR0.out⟩
  case J =>
    rintro rest V wr ⟨x19, x25, x8, x9, rfl, hR⟩
    exact HN0.out wr hR.bel
  case step =>
    rintro rest V wr c hnd hC ⟨x19, x25, x8, x9, rfl, hR⟩ hc hf
    have hcc := hC c hc
    simp only [List.mem_cons, List.not_mem_nil, or_false] at hcc
    have hsz := hR.bel.size
    rcases hcc with rfl | rfl | rfl | rfl | rfl | rfl
    · refine ⟨_, rfl, rfl, stepC_val (v := .slice (some ⟨wr.heap.size, 0, none⟩) N N) (w' := wr.alloc (.cells (boolsC (List.replicate N false)) 4)) ?_ ?_⟩
      · have hmk := HMK5.out
        rw [show (Value.bool false).cells = #[.bool false] from rfl, Nat.mul_one, made_bools] at hmk
        clear hR
        go_simp
      · simp only [Act.put, List.setIfInBounds_toArray]
        exact ⟨_, _, _, _, rfl, hR.bel.alloc hsz _, hR.s.made hsz hnd hc (by decide) (by decide), (hR.b.later (below_alloc (Below.refl _ _) _)).other (by decide) (by decide) (by decide)⟩
    · refine ⟨_, rfl, rfl, stepC_val (v := .slice (some ⟨wr.heap.size, 0, none⟩) N N) (w' := wr.alloc (.cells (stpsC (List.replicate N Stp.zero)) 107)) ?_ ?_⟩
      · have hmk := HMK11.out
        rw [show (Value.agg #[.int .i64 0, .int .i64 0, .int .i64 0, .bool false]).cells = #[.int .i64 0, .int .i64 0, .int .i64 0, .bool false] from rfl, made_stps] at hmk
        clear hR
        go_simp
      · simp only [Act.put, List.setIfInBounds_toArray]
        exact ⟨_, _, _, _, rfl, hR.bel.alloc hsz _, (hR.s.later (below_alloc (Below.refl _ _) _)).other (by decide) (by decide) (by decide), hR.b.made hsz hnd hc (by decide) (by decide)⟩
    · refine ⟨_, rfl, rfl, stepC_val (v := .pointer (some ⟨wr.heap.size, 0, none⟩)) (w' := wr.alloc (.cells #[.slice none 0 0] 60)) ?_ ?_⟩
      · clear hR
        go_simp
      · simp only [Act.put, List.setIfInBounds_toArray]
        exact ⟨_, _, _, _, rfl, hR.bel.alloc hsz _, hR.s.box hsz hnd hc (by decide) (by decide), (hR.b.later (below_alloc (Below.refl _ _) _)).other (by decide) (by decide) (by decide)⟩
    · refine ⟨_, rfl, rfl, stepC_val (v := .pointer (some ⟨wr.heap.size, 0, none⟩)) (w' := wr.alloc (.cells #[.slice none 0 0] 82)) ?_ ?_⟩
      · clear hR
        go_simp
      · simp only [Act.put, List.setIfInBounds_toArray]
        exact ⟨_, _, _, _, rfl, hR.bel.alloc hsz _, (hR.s.later (below_alloc (Below.refl _ _) _)).other (by decide) (by decide) (by decide), hR.b.box hsz hnd hc (by decide) (by decide)⟩
    · have h5 : 5 ∉ rest := freeC_done hf (by kernel_rfl)
      have h12 : 12 ∉ rest := freeC_done hf (by kernel_rfl)
      obtain ⟨B, b1, rfl, b3⟩ := hR.s.s h5
      obtain ⟨S, s1, rfl, s3, _⟩ := hR.s.p h12
      have hbs := s3 hc
      have g0 : wr.cell? ⟨S, 0, none⟩ = some (.slice none 0 0) := hbs.cell 0
      have f0 := hbs.frozen 0
      refine ⟨_, rfl, rfl, stepC_skip (w' := wr.setCell ⟨S, 0, none⟩ (.slice (some ⟨B, 0, none⟩) N N)) rfl ?_ ?_⟩
      · clear hR
        go_simp
      · exact ⟨_, _, _, _, rfl, hR.bel.setCell s1 _, hR.s.stored hnd h5 h12 hbs s1 (by decide), (hR.b.keep _ hbs (by decide) (by decide)).other (by decide) (by decide) (by decide)⟩
    · have h5 : 11 ∉ rest := freeC_done hf (by kernel_rfl)
      have h12 : 13 ∉ rest := freeC_done hf (by kernel_rfl)
      obtain ⟨B, b1, rfl, b3⟩ := hR.b.s h5
      obtain ⟨S, s1, rfl, s3, _⟩ := hR.b.p h12
      have hbs := s3 hc
      have g0 : wr.cell? ⟨S, 0, none⟩ = some (.slice none 0 0) := hbs.cell 0
      have f0 := hbs.frozen 0
      refine ⟨_, rfl, rfl, stepC_skip (w' := wr.setCell ⟨S, 0, none⟩ (.slice (some ⟨B, 0, none⟩) N N)) rfl ?_ ?_⟩
      · clear hR
        go_simp
      · exact ⟨_, _, _, _, rfl, hR.bel.setCell s1 _, (hR.s.keep _ hbs (by decide) (by decide)).other (by decide) (by decide) (by decide), hR.b.stored hnd h5 h12 hbs s1 (by decide)⟩
  case fin =>
    rintro V W2 ⟨x19, x25, x8, x9, rfl, hR⟩
    obtain ⟨SB, b1, rfl, hsb⟩ := hR.s.s (by simp)
    obtain ⟨BB, b2, rfl, hbb⟩ := hR.b.s (by simp)
    obtain ⟨S8, b3, rfl, _, h8⟩ := hR.s.p (by simp)
    obtain ⟨S9, b4, rfl, _, h9⟩ := hR.b.p (by simp)
    have H8 := Lib.hid (h8 (by simp))
    have H9 := Lib.hid (h9 (by simp))
    have HSB := Lib.hid hsb
    have HBB := Lib.hid hbb
    have HB2 := Lib.hid hR.bel
    clear h8 h9 hsb hbb hR HMK5 HMK11 HR0 HN0 n0
    go_upto_region 3 with (fail)
    obtain ⟨W3, hW3⟩ : ∃ W, W = W2.alloc (.cells #[.slice none 0 0, .int .i64 0] 100) := ⟨_, rfl⟩
    have HM3 : Hid (SeM w W3 N t SB BB S8 S9 W2.heap.size [] (boolsC (List.replicate N false)) (stpsC (List.replicate N Stp.zero)) [] 0 []) := Lib.hid (by
      have hab : Below W2.heap.size W2 W3 := by rw [hW3]; exact below_alloc (Below.refl _ _) _
      have hs1 := HS1.out
      have hs2 := HB2.out.size
      refine ⟨below_step (below_step HB1.out HB2.out) hab, (HT.out.later HB2.out).later hab, H8.out.later hab, H9.out.later hab, HSB.out.later hab, HBB.out.later hab, ⟨.slice none 0 0, ⟨by rw [hW3]; exact Blk.new .., World.ownsRow_nil .., Nat.lt_succ_self _, by rw [hW3, World.size_alloc]; exact Nat.le_refl _⟩, fun b hb => (by cases hb)⟩, ⟨by omega, by omega, by omega, by omega, by omega⟩, fun D hD => (by cases hD)⟩)
    rw [← hW3]
    clear hW3
    obtain ⟨QB, hQB⟩ : ∃ Q, W2.heap.size = Q := ⟨_, rfl⟩
    rw [hQB] at HM3 ⊢
    clear hQB H8 H9 HSB HBB HB2 HB1 HT HS1
    have c8 : W3.cell? ⟨S8, 0, none⟩ = some (.slice (some ⟨SB, 0, none⟩) N N) := HM3.out.b8.cell 0
    have cS : W3.cell? ⟨SB, s, none⟩ = some (.bool ((List.replicate N false).getD s false)) := (HM3.out.sb.cell s).trans (boolsC_get (by rw [List.length_replicate]; exact hs))
    have fS := HM3.out.sb.frozen s
    have y1 : (0 : Int) ≤ (s : Int) := by omega
    have y2 : (s : Int) < (N : Int) := by omega
    go_upto_region 4 with (fail)
    obtain ⟨W4, hW4⟩ : ∃ W, W = W3.setCell ⟨SB, s, none⟩ (.bool true) := ⟨_, rfl⟩
    have HM4 : Hid (SeM w W4 N t SB BB S8 S9 QB [] (boolsC ((List.replicate N false).set s true)) (stpsC (List.replicate N Stp.zero)) [] 0 []) := Lib.hid (by
      rw [hW4, ← boolsC_set]
      exact HM3.out.setS s (.bool true))
    rw [← hW4]
    clear hW4 c8 cS fS HM3
    obtain ⟨v4, hv4, hx4⟩ := HM4.out.qu
    have HV4 := Lib.hid hv4
    have HP4 := Lib.hid (push_any (QB + 1) QB (natI []) ((0 : Nat) : Int) (s : Int) v4 W4 hv4 (by simp [natI]))
    clear hv4
    go_wp2_with fail
    refine HP4.out.mono ?_
    rintro _ W5 ⟨rfl, hq5, ha5⟩
    simp only [natI_snoc] at hq5
    have HM5 := Lib.hid (HM4.out.pushed HV4.out hx4 (fun b hb => (by cases hb)) hq5 ha5)
    clear HM4 HV4 HP4 hq5 ha5
    go_wp2_with fail
    refine wp_label ?_
    rename_i K4 hK4
    refine hK4 _ _ ?_
    refine wp_seq_k (fun K5 hK5 => ?_)
    refine wp_block ?_
    have HEND : ∀ (Ds : List Nat) (W : World) (seen : List Bool) (by' : List Stp) (l : List Nat) (head : Nat) (rk : Nat → Nat) (u11 u12 u13 u31 u32 u33 u34 u35 u36 u37 u38 u39 u40 u41 u42 u43 u44 u45 u46 u47 u48 u49 u50 u51 u52 u53 u54 u55 u56 u57 u58 u59 u60 u61 u62 u63 : Value), SeM w W N t SB BB S8 S9 QB [] (boolsC seen) (stpsC by') l head Ds → Ds.Nodup → (∀ D ∈ Ds, w.heap.size ≤ D) → Reach E fl N s seen by' rk → (seen.getD t false = false → Shut E fl (fun v => seen.getD v false)) → K5 ({ tmps := #[.pointer (some ⟨NB, 0, none⟩), .int .i64 (s : Nat), .int .i64 (t : Nat), undef, undef, .pointer (some ⟨w.heap.size, 0, none⟩), .slice none 0 0, .slice none 0 0, .pointer (some ⟨S8, 0, none⟩), .pointer (some ⟨S9, 0, none⟩), .pointer (some ⟨QB, 0, none⟩), u11, u12, u13, .pointer (some ⟨NB, 0, none⟩), .pointer (some ⟨NB, 0, none⟩), .pointer (some ⟨NB, 0, none⟩), .pointer (some ⟨NB, 0, none⟩), .int .i64 (N : Nat), .slice (some ⟨SB, 0, none⟩) N N, .pointer (some ⟨NB, 0, none⟩), .pointer (some ⟨NB, 0, none⟩), .pointer (some ⟨NB, 0, none⟩), .pointer (some ⟨NB, 0, none⟩), .int .i64 (N : Nat), .slice (some ⟨BB, 0, none⟩) N N, .slice (some ⟨SB, 0, none⟩) N N, .int .i64 (s : Nat), .pointer (some ⟨SB, s, none⟩), .int .i64 (s : Nat), .tuple #[], u31, u32, u33, u34, u35, u36, u37, u38, u39, u40, u41, u42, u43, u44, u45, u46, u47, u48, u49, u50, u51, u52, u53, u54, u55, u56, u57, u58, u59, u60, u61, u62, u63], defers := marksD Ds } : Act) W := by
      intro Ds W seen by' l head rk u11 u12 u13 u31 u32 u33 u34 u35 u36 u37 u38 u39 u40 u41 u42 u43 u44 u45 u46 u47 u48 u49 u50 u51 u52 u53 u54 u55 u56 u57 u58 u59 u60 u61 u62 u63 hm hnd hlo hr hsh
      have HM := Lib.hid hm
      have HQ := Lib.hid (show (seen.getD t false = false → Shut E fl (fun v => seen.getD v false)) from hsh)
      refine hK5 _ _ ?_
      have c8 : W.cell? ⟨S8, 0, none⟩ = some (.slice (some ⟨SB, 0, none⟩) N N) := hm.b8.cell 0
      have c9 : W.cell? ⟨S9, 0, none⟩ = some (.slice (some ⟨BB, 0, none⟩) N N) := hm.b9.cell 0
      clear hm hsh HM5 HSP
      go_wp2_with fail
      go_quiet (fail)
      go_wp2
      simp only [Exit.noGoto_ret]
      have HD := Lib.hid (HM.out.later (below_drewN (Below.refl W.heap.size W) nq))
      refine leaves_marks w.heap.size (fun W' => SeM w W' N t SB BB S8 S9 QB [] (boolsC seen) (stpsC by') l head []) (fun W' D hD h1 h2 => h2.taken h1 hD) Ds _ _ (by simp) hnd (fun D hD => ⟨hlo D hD, HD.out.ds D hD⟩) ⟨HD.out.bel, HD.out.b5, HD.out.b8, HD.out.b9, HD.out.sb, HD.out.bb, HD.out.qu, HD.out.lo, fun D hD => (by cases hD)⟩ ?_
      intro W' hm'
      have hr6 := hr
      refine ⟨.tuple #[.slice (some ⟨SB, 0, none⟩) N N, .slice (some ⟨BB, 0, none⟩) N N], ?_, hm'.bel, SB, BB, seen, by', rk, rfl, Nat.le_of_lt hm'.lo.1, Nat.le_of_lt hm'.lo.2.1, hm'.sb, hm'.bb, hr, HQ.out⟩
      simp [results, Try.results38, go_sem]
    have HENDH := Lib.hid HEND
    clear HEND hK5
    have HST0 := Lib.hid (show SeP E fl N s t ((List.replicate N false).set s true) (List.replicate N Stp.zero) [s] 0 (fun _ => 0) from HSP.out)
    clear HSP
    refine (wpIn_wide (n := n)).1 ?_
    refine wpIn_loop (fun a W => ∃ (Ds : List Nat) (seen : List Bool) (by' : List Stp) (l : List Nat) (dn : Nat) (rk : Nat → Nat) (u11 u12 u13 u31 u32 u33 u34 u35 u36 u37 u38 u39 u40 u41 u42 u43 u44 u45 u46 u47 u48 u49 u50 u51 u52 u53 u54 u55 u56 u57 u58 u59 u60 u61 u62 u63 : Value), a = ({ tmps := #[.pointer (some ⟨NB, 0, none⟩), .int .i64 (s : Nat), .int .i64 (t : Nat), undef, undef, .pointer (some ⟨w.heap.size, 0, none⟩), .slice none 0 0, .slice none 0 0, .pointer (some ⟨S8, 0, none⟩), .pointer (some ⟨S9, 0, none⟩), .pointer (some ⟨QB, 0, none⟩), u11, u12, u13, .pointer (some ⟨NB, 0, none⟩), .pointer (some ⟨NB, 0, none⟩), .pointer (some ⟨NB, 0, none⟩), .pointer (some ⟨NB, 0, none⟩), .int .i64 (N : Nat), .slice (some ⟨SB, 0, none⟩) N N, .pointer (some ⟨NB, 0, none⟩), .pointer (some ⟨NB, 0, none⟩), .pointer (some ⟨NB, 0, none⟩), .pointer (some ⟨NB, 0, none⟩), .int .i64 (N : Nat), .slice (some ⟨BB, 0, none⟩) N N, .slice (some ⟨SB, 0, none⟩) N N, .int .i64 (s : Nat), .pointer (some ⟨SB, s, none⟩), .int .i64 (s : Nat), .tuple #[], u31, u32, u33, u34, u35, u36, u37, u38, u39, u40, u41, u42, u43, u44, u45, u46, u47, u48, u49, u50, u51, u52, u53, u54, u55, u56, u57, u58, u59, u60, u61, u62, u63], defers := marksD Ds } : Act) ∧ SeM w W N t SB BB S8 S9 QB [] (boolsC seen) (stpsC by') l dn Ds ∧ Ds.Nodup ∧ (∀ D ∈ Ds, w.heap.size ≤ D) ∧ SeP E fl N s t seen by' l dn rk) (fun _ W => match W.cell? ⟨QB, 1, none⟩ with
      | some (.int _ h) => N - h.toNat
      | _ => 0) ⟨[], _, _, _, _, _, _, _, _, _, _, _, _, _, _, _, _, _, _, _, _, _, _, _, _, _, _, _, _, _, _, _, _, _, _, _, _, _, _, _, _, _, rfl, HM5.out, List.nodup_nil, fun _ h => (by cases h), HST0.out⟩ ?_
    clear HM5 HST0
    rintro a W ⟨Ds, seen, by', l, dn, rk, u11, u12, u13, u31, u32, u33, u34, u35, u36, u37, u38, u39, u40, u41, u42, u43, u44, u45, u46, u47, u48, u49, u50, u51, u52, u53, u54, u55, u56, u57, u58, u59, u60, u61, u62, u63, rfl, hm, hnd, hlo, hsp⟩
    have hln : l.length ≤ N := nodup_le hsp.nd (fun x hx => (hsp.ls x hx).1)
    obtain ⟨v, hv, hvX⟩ := hm.qu
    have HM := Lib.hid hm
    have HSP := Lib.hid hsp
    have HND := Lib.hid hnd
    have HLO := Lib.hid hlo
    have HV := Lib.hid hv
    clear hm hnd hlo hv
    by_cases hd : dn = l.length
    · have HP := Lib.hid (pop_none (QB + 1) QB (natI l) dn v W HV.out (by rw [natI_length]; omega) (by rw [natI_length]; exact hd))
      have HSH := Lib.hid (show Shut E fl (fun v => seen.getD v false) by subst hd; exact hsp.shut HNET.out.inN HCAP.out)
      clear hsp hd
      gi_wp2_with fail
      refine inCall HP.out ?_
      rintro e W2 ⟨rfl, hb⟩
      have HM2 := Lib.hid (HM.out.later hb)
      clear hb HP HM HV
      gi_wp2
      exact HENDH.out Ds W2 seen by' l dn rk _ _ _ _ _ _ _ _ _ _ _ _ _ _ _ _ _ _ _ _ _ _ _ _ _ _ _ _ _ _ _ _ _ _ _ _ HM2.out HND.out HLO.out HSP.out.reach (fun _ => HSH.out)
    · have hdl : dn < l.length := Nat.lt_of_le_of_ne hsp.dl hd
      have HP := Lib.hid (pop_some (QB + 1) QB (natI l) dn v W HV.out (by rw [natI_length]; omega) (by rw [natI_length]; exact hdl))
      rw [natI_get hdl] at HP
      have hvl : l.getD dn 0 ∈ l := by rw [List.getD_eq_getElem?_getD, List.getElem?_eq_getElem hdl]; exact List.getElem_mem hdl
      have hvN := (hsp.ls _ hvl).1
      obtain ⟨v0, hv0⟩ : ∃ x, l.getD dn 0 = x := ⟨_, rfl⟩
      rw [hv0] at HP hvN
      have HV0 := Lib.hid hv0
      clear hsp hd hvl hv0
      gi_wp2_with fail
      refine inCall HP.out ?_
      rintro e W2 ⟨rfl, hq2, ha2⟩
      have HM2 : Hid (SeM w W2 N t SB BB S8 S9 QB [] (boolsC seen) (stpsC by') l (dn + 1) Ds) := Lib.hid (HM.out.agr HV.out ha2 (fun b hb => .inl (List.mem_singleton.1 hb)) ⟨v, hq2, hvX⟩)
      clear hq2 ha2 HP HV hvX
      gi_wp2_with fail
      refine inCall (steps_any NB ((v0 : Nat) : Int) W2) ?_
      rintro _ _ ⟨rfl, rfl⟩
      obtain ⟨W3, hW3⟩ : ∃ W', W' = (W2.alloc (.cells #[.pointer (some ⟨NB, 0, none⟩)] 80)).alloc (.cells #[.int .i64 (v0 : Nat)] 3) := ⟨_, rfl⟩
      have HBX := Lib.hid (show PBox W3 W2.heap.size NB v0 by
        rw [hW3]
        refine ⟨(Blk.new ..).alloc _, ?_⟩
        have := Blk.new (W2.alloc (.cells #[.pointer (some ⟨NB, 0, none⟩)] 80)) 3 #[.int .i64 (v0 : Nat)]
        rwa [World.size_alloc] at this)
      have hab : Below W2.heap.size W2 W3 := by rw [hW3]; exact below_alloc (below_alloc (Below.refl _ _) _) _
      have HDB := Lib.hid (show ∀ D ∈ Ds, D < W3.heap.size from fun D hD => Nat.lt_of_lt_of_le (Array.getElem?_eq_some_iff.1 (HM2.out.ds D hD)).1 hab.size)
      have HM3 := Lib.hid ((HM2.out.fence (X := [W2.heap.size + 1]) (fun b hb => by rw [List.mem_singleton.1 hb]; exact Nat.le_succ _)).later hab)
      have HW2 := Lib.hid HM2.out.bel.size
      rw [← hW3]
      clear hW3 hab HM2
      obtain ⟨q, hq⟩ : ∃ q, W2.heap.size = q := ⟨_, rfl⟩
      rw [hq] at HBX HM3 HW2 ⊢
      clear hq
      gi_wp2_with fail
      refine wpIn_rangeFunc_ownH (F := Fence.wide) rfl (by omega) (gf := 72) (lb := #[.pointer (some ⟨q, 0, none⟩), .pointer (some ⟨q + 1, 0, none⟩)]) rfl trivial (enters_of Try.func72 (by kernel_rfl) rfl)
        (w0 := W3) (encs := encP (E := E) (fl := fl) (N := N) (v := v0)) (Kp := KpP w.heap.size q) (S := PDone) (Sp := fun _ => True) (N := (incL E v0).length)
        (fun lp J Jx W' hW' hJ hJx hY h0 => (steps1_in (n - 1) lp q w N E NB FB AB eo ec fl v0 hvN HNET.out HFB.out HLEN.out HCAP.out J Jx hY W' (below_step HM3.out.bel hW') hJ (HBX.out.later hW') h0).mono (fun e W4 h => ⟨h.1, h.2.imp (fun h => h) (fun ⟨p, hp⟩ => ⟨p, trivial, hp⟩)⟩))
        (fun h k => h.trans k)
        (fun W' lb ob ob' h1 h2 _ _ => ⟨(Below.refl _ _).grown (grownBy_putObj' W' lb ob') (by have := (Array.getElem?_eq_some_iff.1 h2).1; have := HM3.out.bel.size; omega) (fun k e => by cases e; have := HM3.out.bel.size; omega), World.putObj_heap_other (by have := HBX.out.v.lt; omega), World.putObj_heap_other (by have := HBX.out.v.lt; omega)⟩)
        (Below.refl _ _) (fun _ => rfl)
        (fun pre W' => ∃ (seen : List Bool) (by' : List Stp) (l : List Nat) (rk : Nat → Nat), SeM w W' N t SB BB S8 S9 QB [q + 1] (boolsC seen) (stpsC by') l (dn + 1) Ds ∧ SeP E fl N s t seen by' l dn rk ∧ (dn < l.length ∧ l.getD dn 0 = v0) ∧ (∀ x ∈ pre, seen.getD x.1.to false = true) ∧ PBox W' q NB v0)
        (fun c pre W' => c = .exit 0 ∧ ∃ (seen : List Bool) (by' : List Stp) (l : List Nat) (rk : Nat → Nat), SeM w W' N t SB BB S8 S9 QB [q + 1] (boolsC seen) (stpsC by') l (dn + 1) Ds ∧ Reach E fl N s seen by' rk ∧ seen.getD t false = true)
        (fun pre A B row hs hg hr => by
          obtain ⟨seen, by', l, rk, h1, h2, h3, h4, h5⟩ := hs
          exact ⟨seen, by', l, rk, h1.turn HDB.out HM3.out.bel.size hg hr, h2, h3, h4, ⟨blk_turn h5.b hg (fun r e => (hr r e).2), blk_turn h5.v hg (fun r e => (hr r e).2)⟩⟩)
        (fun c pre A B row hs hg hr => by
          obtain ⟨h0, seen, by', l, rk, h1, h2, h3⟩ := hs
          exact ⟨h0, seen, by', l, rk, h1.turn HDB.out HM3.out.bel.size hg hr, h2, h3⟩)
        ⟨seen, by', l, rk, HM3.out, HSP.out, ⟨hdl, HV0.out⟩, fun _ h => (by cases h), HBX.out⟩
        (fun x a' W' => ∃ Bx, q + 1 < Bx ∧ Bx ≠ BB ∧ Blk W' Bx 107 #[.int .i64 (x.1.e : Nat), .int .i64 (x.1.to : Nat), .int .i64 x.1.room, .bool x.1.fw] ∧ a' = ({ tmps := #[.pointer (some ⟨NB, 0, none⟩), .int .i64 (s : Nat), .int .i64 (t : Nat), undef, undef, .pointer (some ⟨w.heap.size, 0, none⟩), .slice none 0 0, .slice none 0 0, .pointer (some ⟨S8, 0, none⟩), .pointer (some ⟨S9, 0, none⟩), .pointer (some ⟨QB, 0, none⟩), .int .i64 (v0 : Nat), .bool true, .pointer (some ⟨Bx, 0, none⟩), .pointer (some ⟨NB, 0, none⟩), .pointer (some ⟨NB, 0, none⟩), .pointer (some ⟨NB, 0, none⟩), .pointer (some ⟨NB, 0, none⟩), .int .i64 (N : Nat), .slice (some ⟨SB, 0, none⟩) N N, .pointer (some ⟨NB, 0, none⟩), .pointer (some ⟨NB, 0, none⟩), .pointer (some ⟨NB, 0, none⟩), .pointer (some ⟨NB, 0, none⟩), .int .i64 (N : Nat), .slice (some ⟨BB, 0, none⟩) N N, .slice (some ⟨SB, 0, none⟩) N N, .int .i64 (s : Nat), .pointer (some ⟨SB, s, none⟩), .int .i64 (s : Nat), .tuple #[], .tuple #[.int .i64 (v0 : Nat), .bool true], .tuple #[.int .i64 (v0 : Nat), .bool true], .int .i64 (v0 : Nat), .bool true, .bool true, .bool false, .pointer (some ⟨NB, 0, none⟩), .int .i64 (v0 : Nat), .func (.func 72) #[] #[.pointer (some ⟨q, 0, none⟩), .pointer (some ⟨q + 1, 0, none⟩)], stpV x.1, u41, u42, u43, u44, u45, u46, u47, u48, u49, u50, u51, u52, u53, u54, u55, u56, u57, u58, u59, u60, u61, u62, u63], defers := [] } : Act))
        (fun x a' _ A B row hs hg hr => by
          obtain ⟨Bx, h1, h2, h3, h4⟩ := hs
          exact ⟨Bx, h1, h2, blk_turn h3 hg (fun r e => (hr r e).2), h4⟩)
        ?assign ?body ?done ?stop
      case assign =>
        rintro lp pre x W' K ⟨seen, by', l, rk, h1, h2, h3, h4, h5⟩ hK
        have HK := Lib.hid hK
        have H1 := Lib.hid h1
        have H5 := Lib.hid h5
        have HO := Lib.hid h4
        have H2 := Lib.hid h2
        have H3 := Lib.hid h3
        clear hK h1 h2 h3 h4 h5
        gi_wp2
        have hb : Below W'.heap.size W' (W'.alloc (.cells #[.int .i64 (x.1.e : Nat), .int .i64 (x.1.to : Nat), .int .i64 x.1.room, .bool x.1.fw] 107)) := below_alloc (Below.refl _ _) _
        have hq0 := H5.out.b.lt
        have hq1 := H5.out.v.lt
        have hbb := H1.out.bb.lt
        exact HK.out _ _ ((keeps_agr (Agr.of_below (S := []) hb) (fun _ h => by cases h)).from _) ⟨hb.mono H1.out.bel.size, hb.block _ hq0, hb.block _ hq1⟩ ⟨seen, by', l, rk, H1.out.later hb, H2.out, H3.out, HO.out, H5.out.later hb⟩ ⟨W'.heap.size, hq1, Ne.symm (Nat.ne_of_lt hbb), Blk.new _ _ _, rfl⟩
      case body =>
        rintro lp pre x a' W' hlp hrec ⟨seen, by', l, rk, h1, h2, h3, h4, h5⟩ ⟨Bx, hb1, hb2, hb3, rfl⟩ hpl
        obtain ⟨x, hx⟩ := x
        have HX := Lib.hid hx
        have H1 := Lib.hid h1
        have H5 := Lib.hid h5
        have HO := Lib.hid h4
        have H2 := Lib.hid h2
        have H3 := Lib.hid h3
        have H4 : Hid (Blk W' Bx 107 #[.int .i64 (x.e : Nat), .int .i64 (x.to : Nat), .int .i64 x.room, .bool x.fw]) := Lib.hid hb3
        have hxN := hx.2.2
        clear h1 h2 h3 h4 h5 hb3 hlp hrec hpl HM3 HSP HBX HV0 hdl
        dsimp only
        have c8 : W'.cell? ⟨S8, 0, none⟩ = some (.slice (some ⟨SB, 0, none⟩) N N) := H1.out.b8.cell 0
        have c9 : W'.cell? ⟨S9, 0, none⟩ = some (.slice (some ⟨BB, 0, none⟩) N N) := H1.out.b9.cell 0
        have p0 : W'.cell? ⟨Bx, 0, none⟩ = some (.int .i64 (x.e : Nat)) := H4.out.cell 0
        have p1 : W'.cell? ⟨Bx, 1, none⟩ = some (.int .i64 (x.to : Nat)) := H4.out.cell 1
        have p2 : W'.cell? ⟨Bx, 2, none⟩ = some (.int .i64 x.room) := H4.out.cell 2
        have p3 : W'.cell? ⟨Bx, 3, none⟩ = some (.bool x.fw) := H4.out.cell 3
        have cS : W'.cell? ⟨SB, x.to, none⟩ = some (.bool (seen.getD x.to false)) := (H1.out.sb.cell x.to).trans (boolsC_get (by rw [H2.out.reach.ls]; exact hxN))
        have z1 : (0 : Int) ≤ (x.to : Int) := by omega
        have z2 : (x.to : Int) < (N : Int) := by omega
        cases hsv : seen.getD x.to false with
        | true =>
          rw [hsv] at cS
          have HSV := Lib.hid hsv
          clear hsv
          gi_wp2
          refine ⟨KeepsFrom.refl _ _, ⟨Below.refl _ _, rfl, rfl⟩, seen, by', l, rk, H1.out, H2.out, H3.out, fun y hy => ?_, H5.out⟩
          rcases List.mem_append.1 hy with hy | hy
          · exact HO.out y hy
          · rw [List.mem_singleton.1 hy]; exact HSV.out
        | false =>
          rw [hsv] at cS
          have HSV := Lib.hid hsv
          clear hsv
          gi_wp2_with fail
          have fS := H1.out.sb.frozen x.to
          have JJ := Lib.hid (show W'.cell? ⟨S8, 0, none⟩ = some (.slice (some ⟨SB, 0, none⟩) N N) ∧ W'.cell? ⟨S9, 0, none⟩ = some (.slice (some ⟨BB, 0, none⟩) N N) ∧ W'.cell? ⟨Bx, 0, none⟩ = some (.int .i64 (x.e : Nat)) ∧ W'.cell? ⟨Bx, 1, none⟩ = some (.int .i64 (x.to : Nat)) ∧ W'.cell? ⟨Bx, 2, none⟩ = some (.int .i64 x.room) ∧ W'.cell? ⟨Bx, 3, none⟩ = some (.bool x.fw) from ⟨c8, c9, p0, p1, p2, p3⟩)
          refine wpIn_region_mask [8, 10] [true, true, true, true, true, true, true, true, false, true, false] (fun w'' => w''.cell? ⟨S8, 0, none⟩ = some (.slice (some ⟨SB, 0, none⟩) N N) ∧ w''.cell? ⟨S9, 0, none⟩ = some (.slice (some ⟨BB, 0, none⟩) N N) ∧ w''.cell? ⟨Bx, 0, none⟩ = some (.int .i64 (x.e : Nat)) ∧ w''.cell? ⟨Bx, 1, none⟩ = some (.int .i64 (x.to : Nat)) ∧ w''.cell? ⟨Bx, 2, none⟩ = some (.int .i64 x.room) ∧ w''.cell? ⟨Bx, 3, none⟩ = some (.bool x.fw)) mixed (by kernel_rfl) (by kernel_rfl) (by rintro ⟨_, _, h⟩; exact h) ?_
          intro KR hR
          have HR := Lib.hid hR
          clear hR
          simp only [marked]
          apply wpM_val rfl
          · (intro w' hw'; obtain ⟨c0, c1, c2, c3, c4, c5⟩ := hw'; go_simp; with_reducible rfl)
          simp only [Act.put, List.setIfInBounds_toArray, List.set_cons_zero, List.set_cons_succ]
          apply wpM_val rfl
          · (intro w' hw'; go_simp; with_reducible rfl)
          simp only [Act.put, List.setIfInBounds_toArray, List.set_cons_zero, List.set_cons_succ]
          apply wpM_val rfl
          · (intro w' hw'; obtain ⟨c0, c1, c2, c3, c4, c5⟩ := hw'; go_simp; with_reducible rfl)
          simp only [Act.put, List.setIfInBounds_toArray, List.set_cons_zero, List.set_cons_succ]
          apply wpM_val rfl
          · (intro w' hw'; obtain ⟨c0, c1, c2, c3, c4, c5⟩ := hw'; go_simp; with_reducible rfl)
          simp only [Act.put, List.setIfInBounds_toArray, List.set_cons_zero, List.set_cons_succ]
          apply wpM_val rfl
          · (intro w' hw'; go_simp; with_reducible rfl)
          simp only [Act.put, List.setIfInBounds_toArray, List.set_cons_zero, List.set_cons_succ]
          apply wpM_val rfl
          · (intro w' hw'; obtain ⟨c0, c1, c2, c3, c4, c5⟩ := hw'; go_simp; with_reducible rfl)
          simp only [Act.put, List.setIfInBounds_toArray, List.set_cons_zero, List.set_cons_succ]
          apply wpM_val rfl
          · (intro w' hw'; obtain ⟨c0, c1, c2, c3, c4, c5⟩ := hw'; go_simp; with_reducible rfl)
          simp only [Act.put, List.setIfInBounds_toArray, List.set_cons_zero, List.set_cons_succ]
          apply wpM_val rfl
          · (intro w' hw'; go_simp; with_reducible rfl)
          simp only [Act.put, List.setIfInBounds_toArray, List.set_cons_zero, List.set_cons_succ]
          apply wpM_val rfl
          · (intro w' hw'; go_simp; with_reducible rfl)
          simp only [Act.put, List.setIfInBounds_toArray, List.set_cons_zero, List.set_cons_succ]
          refine wpM_nil (HR.out _ ?_)
          clear HR
          clear c8 c9 p0 p1 p2 p3 cS fS
          have H1d := Lib.hid (H1.out.later (Below.refl W'.heap.size W').drew)
          have hbd : Below W'.heap.size W' W'.drew := (Below.refl W'.heap.size W').drew
          obtain ⟨W6, hW6⟩ : ∃ W, W = W'.drew := ⟨_, rfl⟩
          rw [← hW6] at H1d hbd ⊢
          clear hW6
          have H4d := Lib.hid (H4.out.later hbd)
          have HJ6 := Lib.hid (show W6.cell? ⟨S8, 0, none⟩ = some (.slice (some ⟨SB, 0, none⟩) N N) ∧ W6.cell? ⟨S9, 0, none⟩ = some (.slice (some ⟨BB, 0, none⟩) N N) ∧ W6.cell? ⟨Bx, 0, none⟩ = some (.int .i64 (x.e : Nat)) ∧ W6.cell? ⟨Bx, 1, none⟩ = some (.int .i64 (x.to : Nat)) ∧ W6.cell? ⟨Bx, 2, none⟩ = some (.int .i64 x.room) ∧ W6.cell? ⟨Bx, 3, none⟩ = some (.bool x.fw) from ⟨H1d.out.b8.cell 0, H1d.out.b9.cell 0, H4d.out.cell 0, H4d.out.cell 1, H4d.out.cell 2, H4d.out.cell 3⟩)
          have fS6 := H1d.out.sb.frozen x.to
          have cS6 : W6.cell? ⟨SB, x.to, none⟩ = some (.bool (seen.getD x.to false)) := (H1d.out.sb.cell x.to).trans (boolsC_get (by rw [H2.out.reach.ls]; exact hxN))
          refine wpC_skipN rfl rfl rfl HJ6.out (w' := W6.setCell ⟨SB, x.to, none⟩ (.bool true)) (by go_simp) ?_
          have hsne : Bx ≠ SB := Blk.ne H4d.out H1d.out.sb (by decide)
          have H1e := Lib.hid (H1d.out.setS x.to (.bool true))
          have H4e := Lib.hid (H4d.out.other (p := ⟨SB, x.to, none⟩) hsne (.bool true))
          have H5e : Hid (PBox W6 q NB v0) := Lib.hid (H5.out.later hbd)
          have KA := Lib.hid (show KpP w.heap.size q W' W6 from ⟨hbd.mono H1.out.bel.size, hbd.block _ H5.out.b.lt, hbd.block _ H5.out.v.lt⟩)
          have KB := Lib.hid ((keeps_agr (Agr.of_below (S := []) hbd) (fun _ h => by cases h)).from W3.heap.size)
          rw [boolsC_set] at H1e
          have hsbq : SB ≠ q ∧ SB ≠ q + 1 := ⟨Ne.symm (Blk.ne H5e.out.b H1d.out.sb (by decide)), Ne.symm (Blk.ne H5e.out.v H1d.out.sb (by decide))⟩
          have hbbq : BB ≠ q ∧ BB ≠ q + 1 := ⟨Ne.symm (Blk.ne H5e.out.b H1d.out.bb (by decide)), Ne.symm (Blk.ne H5e.out.v H1d.out.bb (by decide))⟩
          obtain ⟨W7, hW7⟩ : ∃ W, W = W6.setCell ⟨SB, x.to, none⟩ (.bool true) := ⟨_, rfl⟩
          have KC := Lib.hid (show KpP w.heap.size q W6 W7 by
            rw [hW7]
            exact ⟨(Below.refl _ _).setCell (Nat.le_of_lt H1d.out.lo.1) _, Below.heap_setCell W6 _ _ _ (Ne.symm hsbq.1), Below.heap_setCell W6 _ _ _ (Ne.symm hsbq.2)⟩)
          have KD := Lib.hid (show KeepsFrom W3.heap.size W6 W7 by
            rw [hW7]
            exact (keeps_agr (((Agr.refl W6 [SB])).set (List.mem_singleton.2 rfl)) (cells_of H1d.out.sb)).from _)
          rw [← hW7] at H1e H4e ⊢
          clear hW7 cS6 fS6 HJ6
          have HJ7 := Lib.hid (show W7.cell? ⟨S8, 0, none⟩ = some (.slice (some ⟨SB, 0, none⟩) N N) ∧ W7.cell? ⟨S9, 0, none⟩ = some (.slice (some ⟨BB, 0, none⟩) N N) ∧ W7.cell? ⟨Bx, 0, none⟩ = some (.int .i64 (x.e : Nat)) ∧ W7.cell? ⟨Bx, 1, none⟩ = some (.int .i64 (x.to : Nat)) ∧ W7.cell? ⟨Bx, 2, none⟩ = some (.int .i64 x.room) ∧ W7.cell? ⟨Bx, 3, none⟩ = some (.bool x.fw) from ⟨H1e.out.b8.cell 0, H1e.out.b9.cell 0, H4e.out.cell 0, H4e.out.cell 1, H4e.out.cell 2, H4e.out.cell 3⟩)
          have hby : x.to < by'.length := by rw [H2.out.reach.lb]; exact hxN
          have fB := H1e.out.bb.frozen
          have g0 : W7.cell? ⟨BB, x.to * 4, none⟩ = some (.int .i64 ((getS by' x.to).e : Nat)) := (H1e.out.bb.cell _).trans (by rw [stpsC_at]; exact (flatS_get hby).1)
          have g1 : W7.cell? ⟨BB, x.to * 4 + 1, none⟩ = some (.int .i64 ((getS by' x.to).to : Nat)) := (H1e.out.bb.cell _).trans (by rw [stpsC_at]; exact (flatS_get hby).2.1)
          have g2 : W7.cell? ⟨BB, x.to * 4 + 2, none⟩ = some (.int .i64 (getS by' x.to).room) := (H1e.out.bb.cell _).trans (by rw [stpsC_at]; exact (flatS_get hby).2.2.1)
          have g3 : W7.cell? ⟨BB, x.to * 4 + 3, none⟩ = some (.bool (getS by' x.to).fw) := (H1e.out.bb.cell _).trans (by rw [stpsC_at]; exact (flatS_get hby).2.2.2)
          refine wpC_skipN rfl rfl rfl HJ7.out (w' := (((W7.setCell ⟨BB, x.to * 4, none⟩ (.int .i64 (x.e : Nat))).setCell ⟨BB, x.to * 4 + 1, none⟩ (.int .i64 (x.to : Nat))).setCell ⟨BB, x.to * 4 + 2, none⟩ (.int .i64 x.room)).setCell ⟨BB, x.to * 4 + 3, none⟩ (.bool x.fw)) (by go_simp) ?_
          refine wpC_nil ?_
          obtain ⟨W8, hW8⟩ : ∃ W, W = (((W7.setCell ⟨BB, x.to * 4, none⟩ (.int .i64 (x.e : Nat))).setCell ⟨BB, x.to * 4 + 1, none⟩ (.int .i64 (x.to : Nat))).setCell ⟨BB, x.to * 4 + 2, none⟩ (.int .i64 x.room)).setCell ⟨BB, x.to * 4 + 3, none⟩ (.bool x.fw) := ⟨_, rfl⟩
          have H1f := Lib.hid ((((H1e.out.setB (x.to * 4) (.int .i64 (x.e : Nat))).setB (x.to * 4 + 1) (.int .i64 (x.to : Nat))).setB (x.to * 4 + 2) (.int .i64 x.room)).setB (x.to * 4 + 3) (.bool x.fw))
          rw [stpsC_set x hby] at H1f
          have H4f := Lib.hid ((((H4e.out.other (p := ⟨BB, x.to * 4, none⟩) hb2 (.int .i64 (x.e : Nat))).other (p := ⟨BB, x.to * 4 + 1, none⟩) hb2 (.int .i64 (x.to : Nat))).other (p := ⟨BB, x.to * 4 + 2, none⟩) hb2 (.int .i64 x.room)).other (p := ⟨BB, x.to * 4 + 3, none⟩) hb2 (.bool x.fw))
          have hlb := Nat.le_of_lt H1e.out.lo.2.1
          have KE := Lib.hid (show KpP w.heap.size q W7 W8 by
            rw [hW8]
            exact ⟨((((Below.refl _ _).setCell hlb _).setCell hlb _).setCell hlb _).setCell hlb _,
              ((((Below.heap_setCell _ _ _ _ (Ne.symm hbbq.1)).trans (Below.heap_setCell _ _ _ _ (Ne.symm hbbq.1))).trans (Below.heap_setCell _ _ _ _ (Ne.symm hbbq.1))).trans (Below.heap_setCell _ _ _ _ (Ne.symm hbbq.1))),
              ((((Below.heap_setCell _ _ _ _ (Ne.symm hbbq.2)).trans (Below.heap_setCell _ _ _ _ (Ne.symm hbbq.2))).trans (Below.heap_setCell _ _ _ _ (Ne.symm hbbq.2))).trans (Below.heap_setCell _ _ _ _ (Ne.symm hbbq.2)))⟩)
          have KF := Lib.hid (show KeepsFrom W3.heap.size W7 W8 by
            rw [hW8]
            exact (keeps_agr ((((((Agr.refl W7 [BB])).set (List.mem_singleton.2 rfl)).set (List.mem_singleton.2 rfl)).set (List.mem_singleton.2 rfl)).set (List.mem_singleton.2 rfl)) (cells_of H1e.out.bb)).from _)
          rw [← hW8] at H1f H4f ⊢
          have HKp := Lib.hid ((KA.out.trans KC.out).trans KE.out)
          have HKf := Lib.hid ((KB.out.trans KD.out).trans KF.out)
          have H8q := Lib.hid (H5.out.kept HKp.out)
          have HKq := Lib.hid (Nat.le_trans KC.out.1.size KE.out.1.size)
          clear hW8 fB g0 g1 g2 g3 HJ7 KA KB KC KD KE KF H1e H4e H1d H4d H1 H4 hlb hbd hsbq hbbq
          have r1 : W8.cell? ⟨Bx, 1, none⟩ = some (.int .i64 (x.to : Nat)) := H4f.out.cell 1
          have r5 : W8.cell? ⟨w.heap.size, 0, none⟩ = some (.int .i64 (t : Nat)) := H1f.out.b5.cell 0
          by_cases hxt : x.to = t
          · have dt : ((x.to : Int) == (t : Int)) = true := by rw [hxt]; simp
            have HXT := Lib.hid hxt
            clear hxt
            gi_wp2
            have hv0l := mem_of_getD H3.out
            have hv0 := H2.out.ls v0 hv0l
            exact ⟨HKf.out, rfl, _, _, l, _, H1f.out, reach_add H2.out.reach H2.out.rkl hx hv0.1 hv0.2 HSV.out, by rw [← HXT.out]; exact seen_self (by rw [H2.out.reach.ls]; exact hxN)⟩
          · have dt : ((x.to : Int) == (t : Int)) = false := by simp; omega
            have HXT := Lib.hid hxt
            clear hxt
            obtain ⟨v8, hv8, hX8⟩ := H1f.out.qu
            have HV8 := Lib.hid hv8
            have hl8 : (natI l).length ≤ 1000 := by
              rw [natI_length]
              exact Nat.le_trans (nodup_le H2.out.nd (fun y hy => (H2.out.ls y hy).1)) (by omega)
            have HP8 := Lib.hid (push_any (QB + 1) QB (natI l) ((dn + 1 : Nat) : Int) (x.to : Int) v8 W8 hv8 hl8)
            clear hv8 hl8
            gi_wp2_with fail
            refine inCall HP8.out ?_
            rintro _ W9 ⟨rfl, hq9, ha9⟩
            simp only [natI_snoc] at hq9
            have HM9 := Lib.hid (H1f.out.pushed HV8.out hX8 (fun b hb => by rw [List.mem_singleton.1 hb]; have := Nat.lt_of_lt_of_le H5e.out.v.lt HKq.out; exact this) hq9 ha9)
            have HK9 := Lib.hid (show KpP w.heap.size q W8 W9 from ⟨belowN ha9 (fun b hb => by
                rcases List.mem_cons.1 hb with e | e
                · rw [e]; exact Nat.le_of_lt H1f.out.lo.2.2.2.2
                · have h1 := (HV8.out.row.lt b (by simpa using e)).1
                  have h2 := H1f.out.lo.2.2.2.2
                  omega) H1f.out.bel.size, ha9.block q (Nat.lt_of_lt_of_le H5e.out.b.lt HKq.out) (fun hm => by
                rcases List.mem_cons.1 hm with e | e
                · exact Blk.ne H8q.out.b HV8.out.blk (by decide) e
                · exact Blk.not_row H8q.out.b (by decide) HV8.out.row (by simpa using e)), ha9.block (q + 1) (Nat.lt_of_lt_of_le H5e.out.v.lt HKq.out) (fun hm => by
                rcases List.mem_cons.1 hm with e | e
                · exact Blk.ne H8q.out.v HV8.out.blk (by decide) e
                · exact hX8 (q + 1) (by simpa using e) (List.mem_singleton.2 rfl))⟩)
            have HF9 := Lib.hid ((keeps_agr ha9 (que_cells HV8.out)).from W3.heap.size)
            clear hq9 ha9 HP8
            gi_wp2
            have hv0l := mem_of_getD H3.out
            refine ⟨HKf.out.trans HF9.out, HKp.out.trans HK9.out, _, _, _, _, HM9.out, H2.out.found hx hv0l HSV.out HXT.out, ?_, fun y hy => ?_, H8q.out.kept HK9.out⟩
            · rw [List.length_append, List.getD_eq_getElem?_getD, List.getElem?_append_left H3.out.1, ← List.getD_eq_getElem?_getD]
              exact ⟨Nat.lt_of_lt_of_le H3.out.1 (Nat.le_add_right _ _), H3.out.2⟩
            · rcases List.mem_append.1 hy with hy | hy
              · exact seen_set (HO.out y hy)
              · rw [List.mem_singleton.1 hy]
                exact seen_self (by rw [H2.out.reach.ls]; exact hxN)
      case done =>
        rintro D xs W' hD hS ⟨seen, by', l, rk, h1, h2, h3, h4, h5⟩ hmk
        have hnD : D ∉ Ds := fun hm => by have := HDB.out D hm; omega
        have HX2 : SeP E fl N s t seen by' l (dn + 1) rk := h2.expanded h3.1 (by
          rw [h3.2]
          intro y hy
          rw [← show xs.map (·.1) = stpsL E fl v0 (incL E v0).length from hS] at hy
          obtain ⟨z, hz, rfl⟩ := List.mem_map.1 hy
          exact h4 z hz)
        have HM9 := Lib.hid ((h1.mark hmk).free)
        have hm1 := HM9.out.hd
        have hm0 := HM.out.hd
        refine ⟨⟨D :: Ds, seen, by', l, dn + 1, rk, _, _, _, _, _, _, _, _, _, _, _, _, _, _, _, _, _, _, _, _, _, _, _, _, _, _, _, _, _, _, _, _, _, _, _, _, rfl, HM9.out, List.nodup_cons.2 ⟨hnD, HND.out⟩, fun D' hD' => ?_, HX2⟩, ?_⟩
        · rcases List.mem_cons.1 hD' with e | e
          · rw [e]; exact Nat.le_trans HM3.out.bel.size hD
          · exact HLO.out D' e
        · show (match W'.cell? ⟨QB, 1, none⟩ with
            | some (.int _ h) => N - h.toNat
            | _ => 0) < (match W.cell? ⟨QB, 1, none⟩ with
            | some (.int _ h) => N - h.toNat
            | _ => 0)
          rw [hm1, hm0]
          show N - (((dn + 1 : Nat) : Int)).toNat < N - ((dn : Nat) : Int).toNat
          rw [Int.toNat_natCast, Int.toNat_natCast]
          exact sub_lt_of hdl hln
      case stop =>
        rintro D c pre W' hD _ ⟨rfl, seen, by', l, rk, h1, h2, h3⟩ hmk
        have hnD : D ∉ Ds := fun hm => by have := HDB.out D hm; omega
        have HM9 := Lib.hid ((h1.mark hmk).free)
        gi_wp2
        exact HENDH.out (D :: Ds) W' seen by' l (dn + 1) rk _ _ _ _ _ _ _ _ _ _ _ _ _ _ _ _ _ _ _ _ _ _ _ _ _ _ _ _ _ _ _ _ _ _ _ _ HM9.out (List.nodup_cons.2 ⟨hnD, HND.out⟩) (fun D' hD' => by
          rcases List.mem_cons.1 hD' with e | e
          · rw [e]; exact Nat.le_trans HM3.out.bel.size hD
          · exact HLO.out D' e) h2 (fun h => by rw [h3] at h; cases h)
end Go.Proofs.Ythgkfdhkmkbioaa