/- A slice of the call's own: appended to from another slice, made as a literal, stored into. No statement about the program. -/
import Derived.Test.YtmcodendnpjlaaaDoorRowG
namespace Go.Proofs.YtmcodendnpjlaaaDoor
open Go.RowKit

section
variable {P : Program} {w2 wr w1 : World} {t e : TypeId} {size bytes : Nat} {v v' : Value} {n n' : Nat} {xs xs' news : List Value}

/-- append(s, x...): k elements, whose cells are known. -/
theorem wp_appendN {ops : Array Oper} {rest : List Oper} {o : Oper} {a : Act} {Q : Exit → Act → World → Prop} {k c : Nat} {ad : Addr} (hI : ElemI P t e size bytes) (hG : Row w2 wr e size v n xs)
    (hn : n + k ≤ 1000000000) (hb : bytes ≤ 100000) (hlen : news.length = k * size) (h1 : ∀ u ∈ news, u.oneCell' = true) (hcells : ∀ j u, news[j]? = some u → wr.cell? (ad.add j) = some u)
    (hgd : o.guard = none) (s x : Operand) (ho : o.op = .call { callee := .builtin .append, args := #[s, x], argTypes := #[t, t] }) (hs : a.eval s = v) (hx : a.eval x = .slice (some ad) k c)
    (h : ∀ v' w', Row w2 w' e size v' (n + k) (xs ++ news) → wpList P ops Q rest (a.put o.dst v') w') : wpList P ops Q (o :: rest) a wr := by
  obtain ⟨i, z, hi, hz, h2, h3, h4⟩ := hI.info
  refine wpList_append_own wr hgd s x t ho w2.heap.size e i z size bytes hI.under hi hz h2 h3 h4 hI.pos v n xs hs hG.own ad k c news hx hlen hcells h1 ?_ ?_ ?_ ?_
  · simp only [maxLen]; omega
  · have := Nat.mul_le_mul hn hb
    omega
  · exact hG.below.size
  · intro v' w' hown hgrow _
    exact h v' w' (hG.app hown hgrow)

/-- A literal. -/
theorem Row.lit (h : Below w2.heap.size w2 wr) (cs : Array Value) (n : Nat) (hm : n ≤ maxLen) (hs : cs.size = n * size) : Row w2 (wr.alloc (.cells cs e)) e size (.slice (some ⟨wr.heap.size, 0, none⟩) n n) n cs.toList :=
  ⟨World.ownsRow_lit wr cs n h.size hm hs, below_alloc h _⟩

/-- A store into a cell of the row. -/
theorem Row.stored {g cap : Nat} (h : Row w2 wr e size (.slice (some ⟨g, 0, none⟩) n cap) n xs) (j : Nat) (u : Value) : Row w2 (wr.setCell ⟨g, j, none⟩ u) e size (.slice (some ⟨g, 0, none⟩) n cap) n (xs.set j u) := by
  obtain ⟨h1, h2⟩ := h.own.stored j u
  exact h.app h1 h2

theorem Row.cellAt {g cap : Nat} (h : Row w2 wr e size (.slice (some ⟨g, 0, none⟩) n cap) n xs) (j : Nat) (hj : j < n * size) : wr.cell? ⟨g, j, none⟩ = xs[j]? := h.own.cellAt j hj
theorem Row.frozenAt {g cap : Nat} (h : Row w2 wr e size (.slice (some ⟨g, 0, none⟩) n cap) n xs) (j : Nat) : wr.frozen? ⟨g, j, none⟩ = false := h.own.frozenAt j
theorem Row.block {g cap : Nat} (h : Row w2 wr e size (.slice (some ⟨g, 0, none⟩) n cap) n xs) : w2.heap.size ≤ g ∧ g < wr.heap.size := h.own.lt g rfl
theorem Row.some_of (h : Row w2 wr e size v n xs) (hn : 0 < n) : ∃ g cap, v = .slice (some ⟨g, 0, none⟩) n cap ∧ w2.heap.size ≤ g ∧ n ≤ cap := by
  rcases h.own.2 with ⟨_, h0⟩ | ⟨g, cap, _, hv, hg, _, hc, _⟩
  · omega
  · exact ⟨g, cap, hv, hg, hc⟩
end
end Go.Proofs.YtmcodendnpjlaaaDoor
