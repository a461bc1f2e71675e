/- append(row, s...), s any slice whose cells are known, nil too; slices of structs of two integers as cells. No statement about the program. -/
import Derived.Test.YtmcodendnpjlaaaDoorGrowN
namespace Go.Proofs.YtmcodendnpjlaaaDoor
open Go.RowKit

def Cells (w : World) (o : Option Addr) (cs : List Value) : Prop := ∀ j u, cs[j]? = some u → ∃ b off, o = some ⟨b, off, none⟩ ∧ w.cell? ⟨b, off + j, none⟩ = some u
theorem Cells.later {w w' : World} {o : Option Addr} {cs : List Value} (h : Cells w o cs) (hb : Below w.heap.size w w') : Cells w' o cs := fun j u hj => by
  obtain ⟨b, off, ho, hc⟩ := h j u hj
  exact ⟨b, off, ho, cell_kept hb hc⟩

section
variable {P : Program} {w2 wr : World} {t e : TypeId} {size bytes : Nat} {ops : Array Oper} {o : Oper} {a : Act} {Q : Exit → Act → World → Prop} {rest : List Oper} {xs news : List Value}
theorem wp_appendS {v : Value} {n k c : Nat} {ao : Option Addr} (hI : ElemI P t e size bytes) (hG : Row w2 wr e size v n xs)
    (hn : n + k ≤ 1000000000) (hb : bytes ≤ 100000) (hlen : news.length = k * size) (h1 : ∀ u ∈ news, u.oneCell' = true) (hcells : Cells wr ao news)
    (hgd : o.guard = none) (s x : Operand) (ho : o.op = .call { callee := .builtin .append, args := #[s, x], argTypes := #[t, t] }) (hs : a.eval s = v) (hx : a.eval x = .slice ao k c)
    (h : ∀ v' w', Row w2 w' e size v' (n + k) (xs ++ news) → wpList P ops Q rest (a.put o.dst v') w') : wpList P ops Q (o :: rest) a wr := by
  cases ao with
  | none =>
    obtain rfl : news = [] := by
      cases news with
      | nil => rfl
      | cons u us =>
        obtain ⟨_, _, h0, _⟩ := hcells 0 u rfl
        cases h0
    obtain rfl : k = 0 := by
      have := hI.pos
      rcases Nat.eq_zero_or_pos k with h0 | h0
      · exact h0
      · have := Nat.mul_pos h0 this
        simp at hlen
        omega
    obtain ⟨i, z, hi, hz, h2, h3, h4⟩ := hI.info
    have hrun : (Builtin.append_ #[t, t] o.type #[v, .slice none 0 c]).run P wr = .ok v wr := by
      rcases hG.own.2 with ⟨rfl, rfl⟩ | ⟨g, cap, cur, rfl, _, _, hnc, _⟩
      · simp [Builtin.append_, run_underlying hI.under, sizeOf, typeInfo, hi, Builtin.lenOf, Builtin.firstCells]
      · simp [Builtin.append_, run_underlying hI.under, sizeOf, typeInfo, hi, Builtin.lenOf, Builtin.firstCells, hnc, storeCells]
    refine wpList_plain hgd fun K' hK' => ?_
    unfold Oper.wp
    simp [execOp, ho, resolve, invoke, builtin, hs, hx, hrun, Result.andThen]
    exact hK' _ _ (h v wr (hG.cast rfl (by simp)))
  | some ad =>
    refine wp_appendN hI hG hn hb hlen h1 (fun j u hj => ?_) hgd s x ho hs hx h
    obtain ⟨b, off, ho', hc⟩ := hcells j u hj
    injection ho' with ho'
    subst ho'
    rw [Addr.add_lit]
    exact hc
end

/-- The cells of structs of two integers. -/
def twoC (p : Int × Int) : List Value := [.int .i64 p.1, .int .i64 p.2]
def flatT (l : List (Int × Int)) : List Value := l.flatMap twoC
theorem flatT_cons (p : Int × Int) (l : List (Int × Int)) : flatT (p :: l) = twoC p ++ flatT l := rfl
theorem flatT_append (l l' : List (Int × Int)) : flatT (l ++ l') = flatT l ++ flatT l' := by simp [flatT]
theorem flatT_len : ∀ l : List (Int × Int), (flatT l).length = l.length * 2
  | [] => rfl
  | p :: l => by rw [flatT_cons, List.length_append, flatT_len l]; simp [twoC]; omega
theorem flatT_get : ∀ (l : List (Int × Int)) (i j : Nat), i < l.length → j < 2 → (flatT l)[i * 2 + j]? = (twoC (l.getD i (0, 0)))[j]?
  | [], i, j, hi, hj => by simp at hi
  | x :: l, 0, j, hi, hj => by
    rw [flatT_cons, List.getElem?_append_left (by simp [twoC]; omega)]
    simp
  | x :: l, i + 1, j, hi, hj => by
    rw [flatT_cons, List.getElem?_append_right (by simp [twoC]; omega), show (i + 1) * 2 + j - (twoC x).length = i * 2 + j by simp [twoC]; omega, flatT_get l i j (by simpa using hi) hj]
    simp
theorem flatT_one (l : List (Int × Int)) : ∀ u ∈ flatT l, u.oneCell' = true := fun u hu => by
  unfold flatT at hu
  rw [List.mem_flatMap] at hu
  obtain ⟨p, _, hp⟩ := hu
  simp [twoC] at hp
  rcases hp with rfl | rfl <;> rfl
theorem Twos.cells {w : World} {o : Option Addr} {l : List (Int × Int)} (h : Twos w o l) : Cells w o (flatT l) := fun j u hj => by
  have hlt : j < (flatT l).length := (List.getElem?_eq_some_iff.1 hj).1
  rw [flatT_len] at hlt
  obtain ⟨i, k, hk, rfl⟩ : ∃ i k, k < 2 ∧ j = i * 2 + k := ⟨j / 2, j % 2, by omega, by omega⟩
  obtain ⟨b, off, ho, c0, c1⟩ := h i (by omega)
  rw [flatT_get l i k (by omega) hk] at hj
  refine ⟨b, off, ho, ?_⟩
  have : k = 0 ∨ k = 1 := by omega
  rcases this with rfl | rfl
  · simp [twoC] at hj; subst hj; simpa using c0
  · simp [twoC] at hj; subst hj; simpa [Nat.add_assoc] using c1
theorem Row.twos {w2 wr : World} {e : TypeId} {v : Value} {n cap : Nat} {o : Option Addr} {l : List (Int × Int)} (h : Row w2 wr e 2 v n (flatT l)) (hv : v = .slice o n cap) : Twos wr o l := fun i hi => by
  obtain ⟨g, ho, _, c0⟩ := h.cell hv (j := i * 2) (u := .int .i64 (l.getD i (0, 0)).1) (by have := flatT_get l i 0 hi (by omega); simpa [twoC] using this)
  obtain ⟨g', ho', _, c1⟩ := h.cell hv (j := i * 2 + 1) (u := .int .i64 (l.getD i (0, 0)).2) (by have := flatT_get l i 1 hi (by omega); simpa [twoC] using this)
  rw [ho] at ho'
  obtain rfl : g = g' := by injection ho' with h1; injection h1
  exact ⟨g, 0, ho, by simpa using c0, by simpa using c1⟩
end Go.Proofs.YtmcodendnpjlaaaDoor
