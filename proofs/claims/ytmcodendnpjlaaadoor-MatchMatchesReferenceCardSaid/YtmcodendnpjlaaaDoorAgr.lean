/- Worlds that agree but for a few blocks. No statement about the program. -/
import Derived.Test.YtmcodendnpjlaaaDoorMake
namespace Go.Proofs.YtmcodendnpjlaaaDoor
open Go.RowKit

/-- What W has is in wr as it was, but for the blocks of S. -/
structure Agr (W wr : World) (S : List Nat) : Prop where
  os : wr.os = W.os
  tape : wr.tape = W.tape
  output : wr.output = W.output
  size : W.heap.size ≤ wr.heap.size
  block : ∀ b, b < W.heap.size → b ∉ S → wr.heap[b]? = W.heap[b]?

section
variable {W wr w' : World} {S S' : List Nat}
theorem Agr.refl (W : World) (S : List Nat) : Agr W W S := ⟨rfl, rfl, rfl, Nat.le_refl _, fun _ _ _ => rfl⟩
theorem Agr.trans (h : Agr W wr S) (h' : Agr wr w' S') (hs : ∀ b ∈ S', b ∈ S) : Agr W w' S :=
  ⟨h'.os.trans h.os, h'.tape.trans h.tape, h'.output.trans h.output, Nat.le_trans h.size h'.size, fun b hb hS => (h'.block b (Nat.lt_of_lt_of_le hb h.size) (fun h1 => hS (hs b h1))).trans (h.block b hb hS)⟩
theorem Agr.of_below (h : Below W.heap.size W wr) : Agr W wr S := ⟨h.os, h.tape, h.output, h.size, fun b hb _ => h.block b hb⟩
theorem Agr.later (h : Agr W wr S) (hb : Below wr.heap.size wr w') : Agr W w' S := h.trans (Agr.of_below (S := []) hb) (fun _ h => by cases h)
theorem Agr.set (h : Agr W wr S) {g i : Nat} {u : Value} (hg : g ∈ S) : Agr W (wr.setCell ⟨g, i, none⟩ u) S :=
  ⟨h.os, h.tape, h.output, by simpa using h.size, fun b hb hS => (Below.heap_setCell wr ⟨g, i, none⟩ u b (fun e => hS (e ▸ hg))).trans (h.block b hb hS)⟩
theorem Agr.alloc (h : Agr W wr S) (o : Obj) : Agr W (wr.alloc o) S := h.later (below_alloc (Below.refl _ _) o)
theorem Agr.cell (h : Agr W wr S) {b i : Nat} {v : Value} (hc : W.cell? ⟨b, i, none⟩ = some v) (hb : b ∉ S) : wr.cell? ⟨b, i, none⟩ = some v := by
  have hlt := cell_lt hc
  exact (World.cell?_of_block (a := ⟨b, i, none⟩) (h.block b hlt hb)).trans hc
theorem Agr.blk (h : Agr W wr S) {g : Nat} {t : TypeId} {cs : Array Value} (hb : Blk W g t cs) (hg : g ∉ S) : Blk wr g t cs := (h.block g hb.lt hg).trans hb
theorem Agr.below {w : World} (h : Agr W wr S) (hb : Below w.heap.size w W) (hS : ∀ b ∈ S, w.heap.size ≤ b) : Below w.heap.size w wr :=
  ⟨h.os.trans hb.os, h.tape.trans hb.tape, h.output.trans hb.output, Nat.le_trans hb.size h.size, fun b hlt => (h.block b (Nat.lt_of_lt_of_le hlt hb.size) (fun hm => by have := hS b hm; omega)).trans (hb.block b hlt)⟩
theorem Agr.mono (h : Agr W wr S) (hs : ∀ b ∈ S, b ∈ S') : Agr W wr S' := ⟨h.os, h.tape, h.output, h.size, fun b hb hS => h.block b hb (fun h1 => hS (hs b h1))⟩
theorem Agr.drewN (h : Agr W wr S) (n : Nat) : Agr W (wr.drewN n) S := h.later (below_drewN (Below.refl _ _) n)
end

/-- A slice of integers, none of whose cells lies in the blocks of S. -/
def IntsS (S : List Nat) (w : World) (o : Option Addr) (l : List Int) : Prop :=
  ∀ i, i < l.length → ∃ b off, o = some ⟨b, off, none⟩ ∧ b ∉ S ∧ w.cell? ⟨b, off + i, none⟩ = some (.int .i64 (l.getD i 0))
theorem IntsS.ints {S : List Nat} {w : World} {o : Option Addr} {l : List Int} (h : IntsS S w o l) : Ints w o l := fun i hi => by
  obtain ⟨b, off, h1, _, h3⟩ := h i hi
  exact ⟨b, off, h1, h3⟩
theorem IntsS.agr {S S' : List Nat} {w w' : World} {o : Option Addr} {l : List Int} (h : IntsS S w o l) (ha : Agr w w' S') (hs : ∀ b ∈ S', b ∈ S) : IntsS S w' o l := fun i hi => by
  obtain ⟨b, off, h1, h2, h3⟩ := h i hi
  exact ⟨b, off, h1, h2, ha.cell h3 (fun h' => h2 (hs b h'))⟩
theorem IntsS.of {S : List Nat} {w : World} {o : Option Addr} {l : List Int} (h : Ints w o l) (hs : ∀ b ∈ S, w.heap.size ≤ b) : IntsS S w o l := fun i hi => by
  obtain ⟨b, off, h1, h3⟩ := h i hi
  exact ⟨b, off, h1, fun hb => by have := hs b hb; have := cell_lt h3; simp only at this; omega, h3⟩

/-- The cells of a row of integers. -/
def intsC (l : List Int) : Array Value := (l.map (Value.int .i64 ·)).toArray
theorem intsC_get {l : List Int} {i : Nat} (h : i < l.length) : (intsC l)[i]? = some (.int .i64 (l.getD i 0)) := by simp [intsC, h]
theorem intsC_set (l : List Int) (i : Nat) (v : Int) : (intsC l).setIfInBounds i (.int .i64 v) = intsC (l.set i v) := by
  apply Array.ext'
  simp [intsC, List.map_set]
theorem intsC_size (l : List Int) : (intsC l).size = l.length := by simp [intsC]
theorem intsC_zero (n : Nat) : Array.replicate n (Value.int .i64 0) = intsC (List.replicate n 0) := by
  apply Array.ext'
  simp [intsC]
theorem Blk.ints {w : World} {g : Nat} {t : TypeId} {l : List Int} (h : Blk w g t (intsC l)) : Ints w (some ⟨g, 0, none⟩) l := fun i hi => ⟨g, 0, rfl, by rw [Nat.zero_add]; exact (h.cell i).trans (intsC_get hi)⟩

/-- append(s, x), one element in a block of its own; where the new row lies. -/
theorem wp_append1O {P : Program} {base : Nat} {wr : World} {t e : TypeId} {size bytes : Nat} {v : Value} {n : Nat} {xs news : List Value} {ops : Array Oper} {rest : List Oper} {o : Oper} {a : Act} {Q : Exit → Act → World → Prop} (hI : ElemI P t e size bytes) (hG : wr.ownsRow base e size v n xs) (hbase : base ≤ wr.heap.size)
    (hn : n + 1 ≤ 1000000000) (hb : bytes ≤ 100000) (hlen : news.length = size) (h1 : ∀ u ∈ news, u.oneCell' = true)
    (hgd : o.guard = none) (s x : Operand) (ho : o.op = .call { callee := .builtin .append, args := #[s, x], argTypes := #[t, t] }) (hs : a.eval s = v) {B : Nat} (hB : B = wr.heap.size) (hx : a.eval x = .slice (some ⟨B, 0, none⟩) 1 1)
    (h : ∀ v' w', w'.ownsRow base e size v' (n + 1) (xs ++ news) → (wr.alloc (.cells news.toArray e)).grownBy w' v.ownBlock → (v'.ownBlock = v.ownBlock ∨ v'.ownBlock = some (wr.heap.size + 1)) → wpList P ops Q rest (a.put o.dst v') w') : wpList P ops Q (o :: rest) a (wr.alloc (.cells news.toArray e)) := by
  subst hB
  obtain ⟨i, z, hi, hz, h2, h3, h4⟩ := hI.info
  refine wpList_append_own_at (wr.alloc (.cells news.toArray e)) hgd s x t ho base e i z size bytes hI.under hi hz h2 h3 h4 hI.pos v n xs hs (hG.alloc _) ⟨wr.heap.size, 0, none⟩ 1 1 news hx (by rw [hlen, Nat.one_mul]) ?_ h1 ?_ ?_ ?_ ?_
  · intro j u hj
    have := (Blk.new wr e news.toArray).cell j
    rw [Addr.add_lit, Nat.zero_add]
    exact this.trans (by simpa using hj)
  · simp only [maxLen]; omega
  · have := Nat.mul_le_mul hn hb
    omega
  · rw [World.size_alloc]
    omega
  · intro v' w' hown hgrow _ hat
    exact h v' w' hown hgrow (by rw [World.size_alloc] at hat; exact hat)
end Go.Proofs.YtmcodendnpjlaaaDoor
