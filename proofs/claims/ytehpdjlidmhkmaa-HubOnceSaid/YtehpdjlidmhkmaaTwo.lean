/- Two rows of the call's own beside a box of its own. No statement about the program. -/
import Derived.Test.YtehpdjlidmhkmaaGrowN
import Derived.Maps.AppendAt
namespace Go.Proofs.Ytehpdjlidmhkmaa
open Go.RowKit

structure Two (w2 wr : World) (e : TypeId) (size : Nat) (t : TypeId) (cs : Array Value) (v : Value) (n : Nat) (xs : List Value) (v2 : Value) (n2 : Nat) (xs2 : List Value) : Prop where
  a : Grow w2 wr e size t cs v n xs
  b : Grow w2 wr e size t cs v2 n2 xs2
  dis : ∀ g, v.ownBlock = some g → v2.ownBlock ≠ some g

section
variable {P : Program} {w2 wr w1 : World} {e tt : TypeId} {size bytes : Nat} {t : TypeId} {cs : Array Value} {v v' v2 : Value} {n n' n2 : Nat} {xs xs' xs2 news : List Value}

theorem Two.swap (h : Two w2 wr e size t cs v n xs v2 n2 xs2) : Two w2 wr e size t cs v2 n2 xs2 v n xs := ⟨h.b, h.a, fun g h1 h2 => h.dis g h2 h1⟩
theorem Two.new (w2 : World) (e : TypeId) (size : Nat) (t : TypeId) (cs : Array Value) : Two w2 (w2.alloc (.cells cs t)) e size t cs (.slice none 0 0) 0 [] (.slice none 0 0) 0 [] := ⟨Grow.new .., Grow.new .., fun g h => by cases h⟩
theorem Two.later (h : Two w2 wr e size t cs v n xs v2 n2 xs2) (hb : Below wr.heap.size wr w1) : Two w2 w1 e size t cs v n xs v2 n2 xs2 := ⟨h.a.later hb, h.b.later hb, h.dis⟩
theorem Two.store (h : Two w2 wr e size t cs v n xs v2 n2 xs2) (i : Nat) (u : Value) : Two w2 (wr.setCell ⟨w2.heap.size, i, none⟩ u) e size t (cs.setIfInBounds i u) v n xs v2 n2 xs2 := ⟨h.a.store i u, h.b.store i u, h.dis⟩
theorem Two.cast {cs' : Array Value} {m m2 : Nat} {ys ys2 : List Value} (h : Two w2 wr e size t cs v n xs v2 n2 xs2) (hc : cs = cs') (h1 : n = m) (h2 : xs = ys) (h3 : n2 = m2) (h4 : xs2 = ys2) : Two w2 wr e size t cs' v m ys v2 m2 ys2 := by
  subst hc; subst h1; subst h2; subst h3; subst h4; exact h
/-- The first row has been appended to; the source lay in a block that is new. -/
theorem Two.app (h : Two w2 wr e size t cs v n xs v2 n2 xs2) (o : Obj) (ho : w1.ownsRow (w2.heap.size + 1) e size v' n' xs') (hg : (wr.alloc o).grownBy w1 v.ownBlock) (hat : v'.ownBlock = v.ownBlock ∨ v'.ownBlock = some (wr.heap.size + 1)) : Two w2 w1 e size t cs v' n' xs' v2 n2 xs2 := by
  have h' : Two w2 (wr.alloc o) e size t cs v n xs v2 n2 xs2 := h.later (below_alloc (Below.refl _ _) o)
  have hA := h'.a.app ho hg
  refine ⟨hA, ⟨hA.blk, h'.b.own.kept (row := v.ownBlock) hg ?_, hA.below⟩, ?_⟩
  · cases hv : v2.ownBlock with
    | none => exact .inl rfl
    | some g => exact .inr (fun e => h.dis g e.symm hv)
  · intro g h1 h2
    rcases hat with h3 | h3
    · exact h.dis g (h3.symm.trans h1) h2
    · rw [h3] at h1
      injection h1 with h1
      have := (h.b.own.lt g h2).2
      omega

/-- append to the first row: the element lies in a block of its own. -/
theorem wp_append1T {ops : Array Oper} {rest : List Oper} {o : Oper} {a : Act} {Q : Exit → Act → World → Prop} (hI : ElemI P tt e size bytes) (hG : Two w2 wr e size t cs v n xs v2 n2 xs2)
    (hn : n + 1 ≤ 1000000000) (hb : bytes ≤ 100000) (hlen : news.length = size) (h1 : ∀ u ∈ news, u.oneCell' = true)
    (hgd : o.guard = none) (s x : Operand) (ho : o.op = .call { callee := .builtin .append, args := #[s, x], argTypes := #[tt, tt] }) (hs : a.eval s = v) {B : Nat} (hB : B = wr.heap.size) (hx : a.eval x = .slice (some ⟨B, 0, none⟩) 1 1)
    (h : ∀ v' w', Two w2 w' e size t cs v' (n + 1) (xs ++ news) v2 n2 xs2 → wpList P ops Q rest (a.put o.dst v') w') : wpList P ops Q (o :: rest) a (wr.alloc (.cells news.toArray e)) := by
  subst hB
  obtain ⟨i, z, hi, hz, h2, h3, h4⟩ := hI.info
  refine wpList_append_own_at (wr.alloc (.cells news.toArray e)) hgd s x tt ho (w2.heap.size + 1) e i z size bytes hI.under hi hz h2 h3 h4 hI.pos v n xs hs (hG.a.own.alloc _) ⟨wr.heap.size, 0, none⟩ 1 1 news hx (by rw [hlen, Nat.one_mul]) ?_ h1 ?_ ?_ ?_ ?_
  · intro j u hj
    have := (Blk.new wr e news.toArray).cell j
    rw [Addr.add_lit, Nat.zero_add]
    exact this.trans (by simpa using hj)
  · simp only [maxLen]; omega
  · have := Nat.mul_le_mul hn hb
    omega
  · rw [World.size_alloc]
    have := hG.a.base
    omega
  · intro v' w' hown hgrow _ hat
    exact h v' w' (hG.app _ hown hgrow (by rw [World.size_alloc] at hat; exact hat))

/-- The same, as a step of a region that draws its order. -/
theorem step_append1T {ops : Array Oper} {o : Oper} {a : Act} {Q : Exit → Act → World → Prop} {K : Act → World → Prop} {E : Prop} {W : World} (hI : ElemI P tt e size bytes) (hG : Two w2 wr e size t cs v n xs v2 n2 xs2) (hW : W = (wr.alloc (.cells news.toArray e)).drew)
    (hn : n + 1 ≤ 1000000000) (hb : bytes ≤ 100000) (hlen : news.length = size) (h1 : ∀ u ∈ news, u.oneCell' = true)
    (hgd : o.guard = none) (s x : Operand) (ho : o.op = .call { callee := .builtin .append, args := #[s, x], argTypes := #[tt, tt] }) (hs : a.eval s = v) {B : Nat} (hB : B = wr.heap.size) (hx : a.eval x = .slice (some ⟨B, 0, none⟩) 1 1)
    (h : ∀ v' w', Two w2 w' e size t cs v' (n + 1) (xs ++ news) v2 n2 xs2 → K (a.put o.dst v') w') :
    if Region.wanted o (yielded ops a.tmps) = true then Oper.wp P o a W K Q else E := by
  subst hB
  subst hW
  have hw : Region.wanted o (yielded ops a.tmps) = true := by simp [Region.wanted, hgd]
  rw [if_pos hw]
  obtain ⟨i, z, hi, hz, h2, h3, h4⟩ := hI.info
  have hown0 : (wr.alloc (.cells news.toArray e)).drew.ownsRow (w2.heap.size + 1) e size v n xs := ownsRow_later (hG.a.own.alloc _) (Below.refl _ _).drew
  obtain ⟨v', w', hr, hown, hgrow, _, hat⟩ := run_append_own_at (P := P) ((wr.alloc (.cells news.toArray e)).drew) (w2.heap.size + 1) tt o.type e i z size bytes hI.under hi hz h2 h3 h4 hI.pos v n xs hown0 ⟨wr.heap.size, 0, none⟩ 1 1 news (by rw [hlen, Nat.one_mul]) (by
    intro j u hj
    have := (Blk.new wr e news.toArray).drew.cell j
    rw [Addr.add_lit, Nat.zero_add]
    exact this.trans (by simpa using hj)) h1 (by simp only [maxLen]; omega) (by have := Nat.mul_le_mul hn hb; omega) (by
    show w2.heap.size + 1 ≤ (wr.alloc (.cells news.toArray e)).heap.size
    rw [World.size_alloc]
    have := hG.a.base
    omega)
  unfold Oper.wp execOp
  simp only [ho, resolve, invoke, builtin, Sem.run_bind, Sem.run_pure, Result.andThen_ok, List.map_toArray, List.map_cons, List.map_nil, hs, hx, hr]
  have hat' : v'.ownBlock = v.ownBlock ∨ v'.ownBlock = some (wr.heap.size + 1) := by
    have e0 : (wr.alloc (.cells news.toArray e)).drew.heap.size = wr.heap.size + 1 := World.size_alloc ..
    rw [e0] at hat
    exact hat
  exact h v' w' (hG.app (.cells news.toArray e) hown ⟨hgrow.os, hgrow.tape, hgrow.output, hgrow.size, hgrow.block⟩ hat')
/-- The run of an append to the first row. -/
theorem Two.run {ty : TypeId} (hI : ElemI P tt e size bytes) (hG : Two w2 wr e size t cs v n xs v2 n2 xs2) (hn : n + 1 ≤ 1000000000) (hb : bytes ≤ 100000) (hlen : news.length = size) (h1 : ∀ u ∈ news, u.oneCell' = true) :
    ∃ v' w', (Builtin.append_ #[tt, tt] ty #[v, .slice (some ⟨wr.heap.size, 0, none⟩) 1 1]).run P (wr.alloc (.cells news.toArray e)) = .ok v' w' ∧ Two w2 w' e size t cs v' (n + 1) (xs ++ news) v2 n2 xs2 := by
  obtain ⟨i, z, hi, hz, h2, h3, h4⟩ := hI.info
  obtain ⟨v', w', hr, hown, hgrow, _, hat⟩ := run_append_own_at (P := P) (wr.alloc (.cells news.toArray e)) (w2.heap.size + 1) tt ty e i z size bytes hI.under hi hz h2 h3 h4 hI.pos v n xs (hG.a.own.alloc _) ⟨wr.heap.size, 0, none⟩ 1 1 news (by rw [hlen, Nat.one_mul]) (by
    intro j u hj
    have := (Blk.new wr e news.toArray).cell j
    rw [Addr.add_lit, Nat.zero_add]
    exact this.trans (by simpa using hj)) h1 (by simp only [maxLen]; omega) (by have := Nat.mul_le_mul hn hb; omega) (by
    rw [World.size_alloc]
    have := hG.a.base
    omega)
  exact ⟨v', w', hr, hG.app _ hown hgrow (by rw [World.size_alloc] at hat; exact hat)⟩
end
end Go.Proofs.Ytehpdjlidmhkmaa
