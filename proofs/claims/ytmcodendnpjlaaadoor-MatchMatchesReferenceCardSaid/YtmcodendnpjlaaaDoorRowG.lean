/- A slice of the call's own that grows by append. No statement about the program. -/
import Derived.Test.YtmcodendnpjlaaaDoorOwn
import Derived.Maps.AppendAt
import Derived.Handy
namespace Go.Proofs.YtmcodendnpjlaaaDoor
open Go.RowKit

/-- What a slice type's elements take. -/
structure ElemI (P : Program) (t e : TypeId) (size bytes : Nat) : Prop where
  under : P.underlying t = some (.slice e)
  info : ∃ i z, P.info? e = some i ∧ i.zero = some z ∧ i.size = size ∧ i.bytes = bytes ∧ z.cells.size = size
  pos : 0 < size

theorem ElemI.of {P : Program} {t e : TypeId} {size bytes : Nat} (hu : P.underlying t = some (.slice e)) (h : (P.info? e).map (fun i => (i.zero.map (fun z => z.cells.size), i.size, i.bytes)) = some (some size, size, bytes)) (hp : 0 < size) : ElemI P t e size bytes := by
  refine ⟨hu, ?_, hp⟩
  cases hi : P.info? e with
  | none => rw [hi] at h; cases h
  | some i =>
    rw [hi] at h
    simp only [Option.map_some, Option.some.injEq, Prod.mk.injEq] at h
    obtain ⟨h1, h2, h3⟩ := h
    cases hz : i.zero with
    | none => rw [hz] at h1; cases h1
    | some z =>
      rw [hz] at h1
      simp only [Option.map_some, Option.some.injEq] at h1
      exact ⟨i, z, rfl, hz, h2, h3, h1⟩

/-- A row of the call's own, in blocks that w2 does not have; what w2 has is as it was. -/
structure Row (w2 wr : World) (e : TypeId) (size : Nat) (v : Value) (n : Nat) (xs : List Value) : Prop where
  own : wr.ownsRow w2.heap.size e size v n xs
  below : Below w2.heap.size w2 wr

section
variable {P : Program} {w2 wr w1 : World} {t e : TypeId} {size bytes : Nat} {v v' : Value} {n n' : Nat} {xs xs' news : List Value}

theorem Row.nil (w2 : World) (e : TypeId) (size : Nat) : Row w2 w2 e size (.slice none 0 0) 0 [] := ⟨World.ownsRow_nil .., Below.refl _ _⟩
theorem Row.nil' (h : Below w2.heap.size w2 wr) (e : TypeId) (size : Nat) : Row w2 wr e size (.slice none 0 0) 0 [] := ⟨World.ownsRow_nil .., h⟩
theorem Row.later (h : Row w2 wr e size v n xs) (hb : Below wr.heap.size wr w1) : Row w2 w1 e size v n xs := ⟨ownsRow_later h.own hb, below_step h.below hb⟩
theorem Row.alloc (h : Row w2 wr e size v n xs) (o : Obj) : Row w2 (wr.alloc o) e size v n xs := h.later (below_alloc (Below.refl _ _) o)
theorem Row.cast (h : Row w2 wr e size v n xs) (hn : n = n') (hx : xs = xs') : Row w2 wr e size v n' xs' := by subst hn; subst hx; exact h
theorem Row.app (h : Row w2 wr e size v n xs) (ho : w1.ownsRow w2.heap.size e size v' n' xs') (hg : wr.grownBy w1 v.ownBlock) : Row w2 w1 e size v' n' xs' :=
  ⟨ho, h.below.grown hg h.below.size (fun k hk => (h.own.lt k hk).1)⟩
theorem Row.shape (h : Row w2 wr e size v n xs) : ∃ o cap, v = .slice o n cap ∧ n ≤ cap := by
  rcases h.own.2 with ⟨rfl, rfl⟩ | ⟨g, cap, _, rfl, _, _, hc, _⟩
  · exact ⟨none, 0, rfl, Nat.le_refl _⟩
  · exact ⟨some ⟨g, 0, none⟩, cap, rfl, hc⟩

/-- The cells, by number. -/
theorem Row.cell (h : Row w2 wr e size v n xs) {o : Option Addr} {cap : Nat} (hv : v = .slice o n cap) {j : Nat} {u : Value} (hj : xs[j]? = some u) : ∃ g, o = some ⟨g, 0, none⟩ ∧ w2.heap.size ≤ g ∧ wr.cell? ⟨g, j, none⟩ = some u := by
  rcases h.own.2 with ⟨_, hn⟩ | ⟨g, c, _, hv', hg, _⟩
  · have hl := h.own.1
    rw [hn, Nat.zero_mul] at hl
    rw [List.eq_nil_of_length_eq_zero hl] at hj
    cases hj
  · rw [hv] at hv'
    injection hv' with ho
    refine ⟨g, ho, hg, ?_⟩
    have := h.own.cells (g := g) (by rw [hv, ho]; rfl) j u hj
    unfold Addr.add at this
    split at this
    · rename_i h0
      subst h0
      exact this
    · simpa using this

theorem Row.ints {l : List Int} (h : Row w2 wr e 1 v n (l.map (Value.int .i64 ·))) {o : Option Addr} {cap : Nat} (hv : v = .slice o n cap) : Ints wr o l := by
  intro i hi
  obtain ⟨g, ho, _, hc⟩ := h.cell hv (j := i) (u := .int .i64 (l.getD i 0)) (by simp [hi])
  exact ⟨g, 0, ho, by rw [Nat.zero_add]; exact hc⟩

/-- append(s, x), one element, which lies in a block of its own. -/
theorem wp_append1 {ops : Array Oper} {rest : List Oper} {o : Oper} {a : Act} {Q : Exit → Act → World → Prop} (hI : ElemI P t e size bytes) (hG : Row w2 wr e size v n xs)
    (hn : n + 1 ≤ 1000000000) (hb : bytes ≤ 100000) (hlen : news.length = size) (h1 : ∀ u ∈ news, u.oneCell' = true)
    (hgd : o.guard = none) (s x : Operand) (ho : o.op = .call { callee := .builtin .append, args := #[s, x], argTypes := #[t, t] }) (hs : a.eval s = v) (hx : a.eval x = .slice (some ⟨wr.heap.size, 0, none⟩) 1 1)
    (h : ∀ v' w', Row w2 w' e size v' (n + 1) (xs ++ news) → wpList P ops Q rest (a.put o.dst v') w') : wpList P ops Q (o :: rest) a (wr.alloc (.cells news.toArray e)) := by
  obtain ⟨i, z, hi, hz, h2, h3, h4⟩ := hI.info
  refine wpList_append_own (wr.alloc (.cells news.toArray e)) hgd s x t ho w2.heap.size e i z size bytes hI.under hi hz h2 h3 h4 hI.pos v n xs hs (hG.own.alloc _) ⟨wr.heap.size, 0, none⟩ 1 1 news hx (by rw [hlen, Nat.one_mul]) ?_ h1 ?_ ?_ ?_ ?_
  · intro j u hj
    have := (Blk.new wr e news.toArray).cell j
    unfold Addr.add
    split
    · rename_i h0
      subst h0
      exact this.trans (by simpa using hj)
    · show World.cell? _ ⟨wr.heap.size, 0 + j, none⟩ = _
      rw [Nat.zero_add]
      exact this.trans (by simpa using hj)
  · simp only [maxLen]; omega
  · have := Nat.mul_le_mul hn hb
    omega
  · rw [World.size_alloc]
    have := hG.below.size
    omega
  · intro v' w' hown hgrow _
    exact h v' w' ((hG.alloc _).app hown hgrow)

end
end Go.Proofs.YtmcodendnpjlaaaDoor
