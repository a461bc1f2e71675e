/- Appends as steps of a region that draws its order: onto a full slice of whatever origin, and onto a row of the call's own from whatever source. No statement about the program. -/
import Derived.Test.YtehpdjlidmhkmaaMem39
import Derived.Deep.RegionLawGrows
import Derived.Deep.RegionHeld3
import Derived.Deep.AppendLies
namespace Go.Proofs.Ytehpdjlidmhkmaa
open Go.RowKit

theorem Row.from_alloc {w wr : World} {o : Obj} {e : TypeId} {size : Nat} {v : Value} {n : Nat} {xs : List Value} (h : Row (w.alloc o) wr e size v n xs) : Row w wr e size v n xs := by
  refine ⟨⟨h.own.1, ?_⟩, below_step (below_alloc (Below.refl _ _) o) h.below⟩
  rcases h.own.2 with h0 | ⟨g, cap, cur, hv, hg, h5⟩
  · exact .inl h0
  · refine .inr ⟨g, cap, cur, hv, ?_, h5⟩
    rw [World.size_alloc] at hg
    omega

/-- The address of s[k:]. -/
def fromA (o : Option Addr) (k size cap : Nat) : Option Addr := if cap = k then o else o.map (·.add (k * size))

theorem run_slice_from {P : Program} {t e : TypeId} {size bytes : Nat} (hI : ElemI P t e size bytes) (o : Option Addr) (n cap k : Nat) (hk : k ≤ n) (_hn : n ≤ cap) (w : World) :
    (Instr.slice t (.slice o n cap) (some (.int .i64 (k : Nat))) none none).run P w = .ok (.slice (fromA o k size cap) (n - k) (cap - k)) w := by
  obtain ⟨i, z, hi, hz, h2, h3, h4⟩ := hI.info
  have e1 : (0 : Int) ≤ (k : Int) ∧ (k : Int) ≤ (n : Int) := by omega
  simp [Instr.slice, run_underlying hI.under, Instr.sliceBounds, Instr.sliceBound, asIntOf, hk, sizeOf, typeInfo, hi, h2, fromA]
theorem run_slice_upto {P : Program} {t e : TypeId} {size bytes : Nat} (hI : ElemI P t e size bytes) (o : Option Addr) (n cap k : Nat) (hk : k ≤ n) (hn : n ≤ cap) (w : World) :
    (Instr.slice t (.slice o n cap) none (some (.int .i64 (k : Nat))) (some (.int .i64 (k : Nat)))).run P w = .ok (.slice o k k) w := by
  obtain ⟨i, z, hi, hz, h2, h3, h4⟩ := hI.info
  have h5 : k ≤ cap := by omega
  simp [Instr.slice, run_underlying hI.under, Instr.sliceBounds, Instr.sliceBound, asIntOf, h5, sizeOf, typeInfo, hi]
  intro _
  cases o with
  | none => rfl
  | some a => simp [Addr.add]

theorem Cells.from {w : World} {o : Option Addr} {cs : List Value} (h : Cells w o cs) {k size cap : Nat} (hc : cs.length ≤ cap * size) : Cells w (fromA o k size cap) (cs.drop (k * size)) := fun j u hj => by
  rw [List.getElem?_drop] at hj
  obtain ⟨b, off, ho, hcell⟩ := h _ _ hj
  have hl := (List.getElem?_eq_some_iff.1 hj).1
  have hne : ¬ cap = k := by
    rintro rfl
    omega
  refine ⟨b, off + k * size, ?_, by rw [Nat.add_assoc]; exact hcell⟩
  unfold fromA
  rw [if_neg hne, ho]
  simp only [Option.map_some, Addr.add_lit]
theorem Cells.take {w : World} {o : Option Addr} {cs : List Value} (h : Cells w o cs) (k : Nat) : Cells w o (cs.take k) := fun j u hj => by
  rw [List.getElem?_take] at hj
  split at hj
  · exact h j u hj
  · cases hj

section
variable {P : Program} {w2 wr : World} {t e : TypeId} {size bytes : Nat} {ops : Array Oper} {o : Oper} {a : Act} {Q : Exit → Act → World → Prop} {K : Act → World → Prop} {E : Prop} {xs news : List Value}

/-- append(s[:n:n], x): a new row. -/
theorem step_grows {n : Nat} {ao : Option Addr} {B : Nat} (hI : ElemI P t e size bytes) (hb2 : Below w2.heap.size w2 wr) (hn : n + 1 ≤ 1000000000) (hb : bytes ≤ 100000) (hxs : xs.length = n * size) (hold : Cells wr ao xs) (hlen : news.length = size) (h1 : ∀ u ∈ news, u.oneCell' = true)
    (hgd : o.guard = none) (s x : Operand) (ho : o.op = .call { callee := .builtin .append, args := #[s, x], argTypes := #[t, t] }) (hs : a.eval s = .slice ao n n) (hB : wr.heap[B]? = some (.cells news.toArray e (0, 0))) (hx : a.eval x = .slice (some ⟨B, 0, none⟩) 1 1)
    (h : ∀ v' w', Row w2 w' e size v' (n + 1) (xs ++ news) → wr.grownBy w' none → K (a.put o.dst v') w') :
    if Region.wanted o (yielded ops a.tmps) = true then Oper.wp P o a wr K Q else E := by
  obtain ⟨i, z, hi, hz, h2, h3, h4⟩ := hI.info
  have hnone : ao = none → n = 0 ∧ n = 0 := fun h0 => by
    subst h0
    have : n = 0 := by
      rcases Nat.eq_zero_or_pos n with hn0 | hn0
      · exact hn0
      · have hp := Nat.mul_pos hn0 hI.pos
        cases xs with
        | nil => simp at hxs; omega
        | cons u us =>
          obtain ⟨_, _, h0, _⟩ := hold 0 u rfl
          cases h0
    exact ⟨this, this⟩
  refine step_append_grows hgd s x t ho e i z size bytes hI.under hi hz h2 h3 h4 hI.pos ao n n xs hs hnone hxs (fun b hb j u hj => ?_) ⟨B, 0, none⟩ 1 1 news hx (by rw [hlen, Nat.one_mul]) (fun j u hj => ?_) h1 (by omega) (by simp only [maxLen]; omega) (by have := Nat.mul_le_mul hn hb; omega) (fun v' w' hown hgrow => ?_)
  · obtain ⟨b', off, ho', hc⟩ := hold j u hj
    rw [hb] at ho'
    injection ho' with ho'
    subst ho'
    rw [Addr.add_lit]
    exact hc
  · rw [Addr.add_lit, Nat.zero_add]
    have := (show Blk wr B e news.toArray from hB).cell j
    exact this.trans (by simpa using hj)
  · refine h v' w' ⟨⟨hown.1, ?_⟩, hb2.grown hgrow hb2.size (fun k hk => by cases hk)⟩ hgrow
    rcases hown.2 with h0 | ⟨g, cap, cur, hv, hg, h5⟩
    · exact .inl h0
    · exact .inr ⟨g, cap, cur, hv, Nat.le_trans hb2.size hg, h5⟩

/-- append(row, s...). -/
theorem step_appendS {v : Value} {n k c : Nat} {ao : Option Addr} (hI : ElemI P t e size bytes) (hG : Row w2 wr e size v n xs)
    (hn : n + k ≤ 1000000000) (hb : bytes ≤ 100000) (hlen : news.length = k * size) (h1 : ∀ u ∈ news, u.oneCell' = true) (hcells : Cells wr ao news)
    (hgd : o.guard = none) (s x : Operand) (ho : o.op = .call { callee := .builtin .append, args := #[s, x], argTypes := #[t, t] }) (hs : a.eval s = v) (hx : a.eval x = .slice ao k c)
    (h : ∀ v' w', Row w2 w' e size v' (n + k) (xs ++ news) → K (a.put o.dst v') w') :
    if Region.wanted o (yielded ops a.tmps) = true then Oper.wp P o a wr K Q else E := by
  have hw : Region.wanted o (yielded ops a.tmps) = true := by simp [Region.wanted, hgd]
  rw [if_pos hw]
  obtain ⟨i, z, hi, hz, h2, h3, h4⟩ := hI.info
  cases ao with
  | none =>
    obtain rfl : news = [] := by
      cases news with
      | nil => rfl
      | cons u us =>
        obtain ⟨_, _, h0, _⟩ := hcells 0 u rfl
        cases h0
    obtain rfl : k = 0 := by
      have := hI.pos
      rcases Nat.eq_zero_or_pos k with h0 | h0
      · exact h0
      · have := Nat.mul_pos h0 this
        simp at hlen
        omega
    have hrun : (Builtin.append_ #[t, t] o.type #[v, .slice none 0 c]).run P wr = .ok v wr := by
      rcases hG.own.2 with ⟨rfl, rfl⟩ | ⟨g, cap, cur, rfl, _, _, hnc, _⟩
      · simp [Builtin.append_, run_underlying hI.under, sizeOf, typeInfo, hi, Builtin.lenOf, Builtin.firstCells]
      · simp [Builtin.append_, run_underlying hI.under, sizeOf, typeInfo, hi, Builtin.lenOf, Builtin.firstCells, hnc, storeCells]
    unfold Oper.wp
    simp [execOp, ho, resolve, invoke, builtin, hs, hx, hrun, Result.andThen]
    exact h v wr (hG.cast rfl (by simp))
  | some ad =>
    refine wp_append_own wr s x t ho w2.heap.size e i z size bytes hI.under hi hz h2 h3 h4 hI.pos v n xs hs hG.own ad k c news hx hlen (fun j u hj => ?_) h1 (by simp only [maxLen]; omega) (by have := Nat.mul_le_mul hn hb; omega) hG.below.size (fun v' w' hown hgrow _ => h v' w' (hG.app hown hgrow))
    obtain ⟨b, off, ho', hc⟩ := hcells j u hj
    injection ho' with ho'
    subst ho'
    rw [Addr.add_lit]
    exact hc
end
end Go.Proofs.Ytehpdjlidmhkmaa
