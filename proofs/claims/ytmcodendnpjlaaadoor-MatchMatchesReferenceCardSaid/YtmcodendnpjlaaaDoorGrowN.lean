/- A row of the call's own beside a box of its own: appended to. No statement about the program. -/
import Derived.Test.YtmcodendnpjlaaaDoorRowN
namespace Go.Proofs.YtmcodendnpjlaaaDoor
open Go.RowKit

theorem Grow.row {w2 wr : World} {e : TypeId} {size : Nat} {t : TypeId} {cs : Array Value} {v : Value} {n : Nat} {xs : List Value} (h : Grow w2 wr e size t cs v n xs) : Row w2 wr e size v n xs := by
  refine ⟨⟨h.own.1, ?_⟩, h.below⟩
  rcases h.own.2 with h0 | ⟨g, cap, cur, hv, hg, h2⟩
  · exact .inl h0
  · exact .inr ⟨g, cap, cur, hv, by omega, h2⟩

theorem Grow.cast {w2 wr : World} {e : TypeId} {size : Nat} {t : TypeId} {cs cs' : Array Value} {v : Value} {n n' : Nat} {xs xs' : List Value} (h : Grow w2 wr e size t cs v n xs) (hc : cs = cs') (hn : n = n') (hx : xs = xs') : Grow w2 wr e size t cs' v n' xs' := by
  subst hc; subst hn; subst hx; exact h

/-- append(s, x), one element, beside a box of the call's own. -/
theorem wp_append1G {P : Program} {w2 wr : World} {t e : TypeId} {size bytes : Nat} {v : Value} {n : Nat} {xs news : List Value} {tb : TypeId} {cs : Array Value} {ops : Array Oper} {rest : List Oper} {o : Oper} {a : Act} {Q : Exit → Act → World → Prop} (hI : ElemI P t e size bytes) (hG : Grow w2 wr e size tb cs v n xs)
    (hn : n + 1 ≤ 1000000000) (hb : bytes ≤ 100000) (hlen : news.length = size) (h1 : ∀ u ∈ news, u.oneCell' = true)
    (hgd : o.guard = none) (s x : Operand) (ho : o.op = .call { callee := .builtin .append, args := #[s, x], argTypes := #[t, t] }) (hs : a.eval s = v) {B : Nat} (hB : B = wr.heap.size) (hx : a.eval x = .slice (some ⟨B, 0, none⟩) 1 1)
    (h : ∀ v' w', Grow w2 w' e size tb cs v' (n + 1) (xs ++ news) → wpList P ops Q rest (a.put o.dst v') w') : wpList P ops Q (o :: rest) a (wr.alloc (.cells news.toArray e)) := by
  subst hB
  obtain ⟨i, z, hi, hz, h2, h3, h4⟩ := hI.info
  refine wpList_append_own (wr.alloc (.cells news.toArray e)) hgd s x t ho (w2.heap.size + 1) e i z size bytes hI.under hi hz h2 h3 h4 hI.pos v n xs hs (hG.own.alloc _) ⟨wr.heap.size, 0, none⟩ 1 1 news hx (by rw [hlen, Nat.one_mul]) ?_ h1 ?_ ?_ ?_ ?_
  · intro j u hj
    have := (Blk.new wr e news.toArray).cell j
    unfold Addr.add
    split
    · rename_i h0
      subst h0
      exact this.trans (by simpa using hj)
    · show World.cell? _ ⟨wr.heap.size, 0 + j, none⟩ = _
      rw [Nat.zero_add]
      exact this.trans (by simpa using hj)
  · simp only [maxLen]; omega
  · have := Nat.mul_le_mul hn hb
    omega
  · rw [World.size_alloc]
    have := hG.base
    omega
  · intro v' w' hown hgrow _
    exact h v' w' ((hG.alloc _).app hown hgrow)

theorem oneI (x : Int) : ∀ u ∈ [Value.int .i64 x], u.oneCell' = true := fun u hu => by simp at hu; subst hu; rfl
theorem oneI2 (x y : Int) : ∀ u ∈ [Value.int .i64 x, .int .i64 y], u.oneCell' = true := fun u hu => by simp at hu; rcases hu with rfl | rfl <;> rfl

/-- The row read as a slice of integers. -/
theorem Row.ints' {w2 wr : World} {e : TypeId} {l : List Int} {g cap n : Nat} (h : Row w2 wr e 1 (.slice (some ⟨g, 0, none⟩) n cap) n (l.map (Value.int .i64 ·))) (hn : l.length = n) : Ints wr (some ⟨g, 0, none⟩) l := fun i hi => by
  refine ⟨g, 0, rfl, ?_⟩
  rw [Nat.zero_add, h.cellAt i (by omega)]
  simp [List.getD_eq_getElem?_getD, hi]
theorem Row.ints'' {w2 wr : World} {e : TypeId} {l : List Int} {g cap m n : Nat} (h : Row w2 wr e 1 (.slice (some ⟨g, 0, none⟩) m cap) n (l.map (Value.int .i64 ·))) (hm : m = n) (hn : l.length = n) : Ints wr (some ⟨g, 0, none⟩) l := by
  subst hm
  exact h.ints' hn
end Go.Proofs.YtmcodendnpjlaaaDoor
