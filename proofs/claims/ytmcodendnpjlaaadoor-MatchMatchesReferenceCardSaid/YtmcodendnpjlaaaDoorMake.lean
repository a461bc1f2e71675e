/- make of slices whose elements take one cell; append within a block that is known whole. No statement about the program. -/
import Derived.Test.YtmcodendnpjlaaaDoorGrowN
import Derived.OwnWalk
import Derived.ArgAppend
namespace Go.Proofs.YtmcodendnpjlaaaDoor
open Go.RowKit

structure ZeroI (P : Program) (t e : TypeId) (zv : Value) (bytes : Nat) : Prop where
  under : P.underlying t = some (.slice e)
  info : ∃ i z, P.info? e = some i ∧ i.zero = some z ∧ z.cells = #[zv] ∧ i.size = 1 ∧ i.bytes = bytes
theorem ZeroI.of {P : Program} {t e : TypeId} {zv : Value} {bytes : Nat} (hu : P.underlying t = some (.slice e)) (h : ((P.info? e).map (fun i => (i.zero.map (fun z => z.cells), i.size, i.bytes))) = some (some #[zv], 1, bytes)) : ZeroI P t e zv bytes := by
  refine ⟨hu, ?_⟩
  cases hi : P.info? e with
  | none => rw [hi] at h; cases h
  | some i =>
    rw [hi] at h
    simp only [Option.map_some, Option.some.injEq, Prod.mk.injEq] at h
    obtain ⟨h1, h2, h3⟩ := h
    cases hz : i.zero with
    | none => rw [hz] at h1; cases h1
    | some z =>
      rw [hz] at h1
      simp only [Option.map_some, Option.some.injEq] at h1
      exact ⟨i, z, rfl, hz, h1, h2, h3⟩

section
variable {P : Program} {t e : TypeId} {zv : Value} {bytes : Nat}
/-- make([]T, n). -/
theorem wp_makeN {wr : World} {ops : Array Oper} {rest : List Oper} {o : Oper} {a : Act} {Q : Exit → Act → World → Prop} {n : Nat} (hZ : ZeroI P t e zv bytes) (hn : n ≤ 1000000000) (hb : bytes ≤ 100000) (hgd : o.guard = none) (l c : Operand) (hop : o.op = Op.makeSlice t l c) (hl : a.eval l = .int .i64 (n : Nat)) (hc : a.eval c = .int .i64 (n : Nat))
    (h : ∀ w', Blk w' wr.heap.size e (Array.replicate n zv) → Below wr.heap.size wr w' → wpList P ops Q rest (a.put o.dst (.slice (some ⟨wr.heap.size, 0, none⟩) n n)) w') : wpList P ops Q (o :: rest) a wr := by
  obtain ⟨i, z, h1, h2, h3, h4, h5⟩ := hZ.info
  refine wpList_make_full wr hgd l c t hop wr.heap.size e i z 1 hZ.under h1 h2 h4 .i64 .i64 _ _ n hl hc rfl rfl ?_ ?_ (Nat.le_refl _) ?_
  · rw [h5]
    have := Nat.mul_le_mul hb hn
    omega
  · simp only [maxLen]; omega
  · intro w' hown hg
    refine h w' ?_ ⟨hg.os, hg.tape, hg.output, hg.size, fun k hk => hg.block k hk (by simp)⟩
    rcases hown.2 with ⟨hv, _⟩ | ⟨g, cap, cur, hv, _, hbk, _, _, hcs, hcur⟩
    · cases hv
    · injection hv with h6 h7 h8
      injection h6 with h6
      injection h6 with h6
      subst h6 h8
      rw [Nat.mul_one] at hcs hcur
      rw [h3, toList_madeCells_one, List.take_of_length_le (by simp [hcs])] at hcur
      unfold Blk
      rw [hbk]
      congr 2
      apply Array.ext'
      rw [hcur, Array.toList_replicate]
end

/-- append(s, x), one element of one cell, within a block that is known whole and has room. -/
theorem wp_append_in {P : Program} {t e : TypeId} {bytes : Nat} {wr : World} {ops : Array Oper} {rest : List Oper} {o : Oper} {a : Act} {Q : Exit → Act → World → Prop} {g k cap : Nat} {cs : Array Value} {u : Value} (hI : ElemI P t e 1 bytes) (hblk : Blk wr g e cs) (hk : k < cs.size) (hcap : k < cap) (h1 : u.oneCell' = true)
    (hgd : o.guard = none) (s x : Operand) (ho : o.op = .call { callee := .builtin .append, args := #[s, x], argTypes := #[t, t] }) (hs : a.eval s = .slice (some ⟨g, 0, none⟩) k cap) (hx : a.eval x = .slice (some ⟨wr.heap.size, 0, none⟩) 1 1)
    (h : wpList P ops Q rest (a.put o.dst (.slice (some ⟨g, 0, none⟩) (k + 1) cap)) ((wr.alloc (.cells #[u] e)).setCell ⟨g, k, none⟩ u)) : wpList P ops Q (o :: rest) a (wr.alloc (.cells #[u] e)) := by
  obtain ⟨i, z, hi, hz, h2, h3, h4⟩ := hI.info
  refine wpList_plain hgd fun K' hK' => ?_
  have hb2 := hblk.alloc (.cells #[u] e)
  have hrun := run_append_room_cells (P := P) (wr.alloc (.cells #[u] e)) t o.type e i hI.under hi g 0 k cap ⟨wr.heap.size, 0, none⟩ 1 1 [u] (by simp [h2]) (by
    intro j v hj
    have hj0 : j = 0 := by
      have := (List.getElem?_eq_some_iff.1 hj).1
      simp at this
      exact this
    subst hj0
    have := (Blk.new wr e #[u]).cell 0
    rw [Addr.add_lit]
    exact this.trans (by simpa using hj)) (by simpa using h1) (by omega) (by
    intro j hj
    simp at hj
    subst hj
    rw [h2, hb2.cell]
    simp [hk]) (by
    intro j _
    exact hb2.frozen _)
  unfold Oper.wp
  simp only [execOp, ho, resolve, invoke, builtin, Sem.run_bind, Sem.run_pure, Result.andThen_ok, List.map_toArray, List.map_cons, List.map_nil, hs, hx, hrun]
  have e1 : (wr.alloc (.cells #[u] e)).setCells g (0 + k * i.size) [u] = (wr.alloc (.cells #[u] e)).setCell ⟨g, k, none⟩ u := by
    rw [h2]
    simp [World.setCells]
  rw [e1]
  exact hK' _ _ h
end Go.Proofs.YtmcodendnpjlaaaDoor
