/- A row that grows by append, whose slice lies in a cell of a box of the call's own. No statement about the program. -/
import Derived.Test.YtmcodendnpjlaaaDoorSl
import Derived.Laws.AppendOwn
import Derived.Laws.OwnMore
namespace Go.Proofs.YtmcodendnpjlaaaDoor
open Go.RowKit

theorem ownsRow_cast {w : World} {base : Nat} {e : TypeId} {size : Nat} {v : Value} {n n' : Nat} {xs xs' : List Value} (h : w.ownsRow base e size v n xs) (hn : n = n') (hx : xs = xs') : w.ownsRow base e size v n' xs' := by
  subst hn; subst hx; exact h

theorem ownsRow_later {w w' : World} {base : Nat} {e : TypeId} {size : Nat} {v : Value} {n : Nat} {xs : List Value} (h : w.ownsRow base e size v n xs) (hb : Below w.heap.size w w') : w'.ownsRow base e size v n xs :=
  h.kept (row := none) ⟨hb.os, hb.tape, hb.output, hb.size, fun j hj _ => hb.block j hj⟩ (by cases hv : v.ownBlock <;> simp)

/-- A box of the call's own at the first block that w2 does not have, and a row behind it that the call owns; what w2 has is as it was. -/
structure Grow (w2 wr : World) (e : TypeId) (size : Nat) (t : TypeId) (cs : Array Value) (v : Value) (n : Nat) (xs : List Value) : Prop where
  blk : Blk wr w2.heap.size t cs
  own : wr.ownsRow (w2.heap.size + 1) e size v n xs
  below : Below w2.heap.size w2 wr

section
variable {w2 wr w1 : World} {e : TypeId} {size : Nat} {t : TypeId} {cs : Array Value} {v v' : Value} {n n' : Nat} {xs xs' : List Value}

theorem Grow.new (w2 : World) (e : TypeId) (size : Nat) (t : TypeId) (cs : Array Value) : Grow w2 (w2.alloc (.cells cs t)) e size t cs (.slice none 0 0) 0 [] :=
  ⟨Blk.new .., World.ownsRow_nil .., below_alloc (Below.refl _ _) _⟩

theorem Grow.later (h : Grow w2 wr e size t cs v n xs) (hb : Below wr.heap.size wr w1) : Grow w2 w1 e size t cs v n xs :=
  ⟨h.blk.later hb, ownsRow_later h.own hb, below_step h.below hb⟩

theorem Grow.alloc (h : Grow w2 wr e size t cs v n xs) (o : Obj) : Grow w2 (wr.alloc o) e size t cs v n xs := h.later (below_alloc (Below.refl _ _) o)

theorem Grow.app (h : Grow w2 wr e size t cs v n xs) (ho : w1.ownsRow (w2.heap.size + 1) e size v' n' xs') (hg : wr.grownBy w1 v.ownBlock) : Grow w2 w1 e size t cs v' n' xs' := by
  have hl := h.own.lt
  refine ⟨?_, ho, h.below.grown hg h.below.size (fun k hk => by have := hl k hk; omega)⟩
  exact (hg.block _ h.blk.lt (fun e => by have := hl _ e.symm; omega)).trans h.blk

theorem Grow.store (h : Grow w2 wr e size t cs v n xs) (i : Nat) (u : Value) : Grow w2 (wr.setCell ⟨w2.heap.size, i, none⟩ u) e size t (cs.setIfInBounds i u) v n xs :=
  ⟨h.blk.set i u, ownsRow_setCell_below h.own (Nat.lt_succ_self _) u, h.below.setCell (Nat.le_refl _) u⟩

theorem Grow.base (h : Grow w2 wr e size t cs v n xs) : w2.heap.size + 1 ≤ wr.heap.size := h.blk.lt
end
end Go.Proofs.YtmcodendnpjlaaaDoor
