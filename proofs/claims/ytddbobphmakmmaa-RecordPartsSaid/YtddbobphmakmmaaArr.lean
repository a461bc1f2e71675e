/- Arrays in blocks of their own, loaded and stored whole. No statement about the program. -/
import Derived.Test.YtddbobphmakmmaaSl
import Derived.Deep.MidRow
import Derived.ChangeKeysEq
namespace Go.Proofs.Ytddbobphmakmmaa
open Go.RowKit

/-- An array (or struct) of the cells L is all of block g. -/
def Arr (w : World) (g : Nat) (t : TypeId) (L : List Value) : Prop := Blk w g t L.toArray

section
variable {w w' : World} {g : Nat} {t : TypeId} {L M : List Value}
theorem Arr.new (w : World) (t : TypeId) (L : List Value) : Arr (w.alloc (.cells L.toArray t)) w.heap.size t L := Blk.new ..
theorem Arr.lt (h : Arr w g t L) : g < w.heap.size := Blk.lt h
theorem Arr.cell (h : Arr w g t L) {j : Nat} {u : Value} (hj : L[j]? = some u) : w.cell? ⟨g, j, none⟩ = some u := by
  rw [Blk.cell h]
  simpa using hj
theorem Arr.frozen (h : Arr w g t L) (j : Nat) : w.frozen? ⟨g, j, none⟩ = false := Blk.frozen h j
theorem Arr.set (h : Arr w g t L) (j : Nat) (u : Value) : Arr (w.setCell ⟨g, j, none⟩ u) g t (L.set j u) := by
  have := Blk.set h j u
  unfold Arr
  simpa using this
theorem Arr.later (h : Arr w g t L) (hb : Below w.heap.size w w') : Arr w' g t L := Blk.later h hb
theorem Arr.other (h : Arr w g t L) {p : Addr} (hp : g ≠ p.block) (u : Value) : Arr (w.setCell p u) g t L := Blk.other h hp u
theorem Arr.alloc (h : Arr w g t L) (o : Obj) : Arr (w.alloc o) g t L := Blk.alloc h o
theorem Arr.range (h : Arr w g t L) : w.rangeAt g 0 L := fun j v hv => by
  rw [Nat.zero_add]
  exact h.cell hv
theorem Arr.there (h : Arr w g t L) (hM : M.length = L.length) : w.there g 0 M.toArray.size := fun j hj => by
  have hj' : j < L.length := by simpa [hM] using hj
  rw [Nat.zero_add]
  exact ⟨by rw [h.cell (List.getElem?_eq_getElem hj')]; rfl, h.frozen j⟩

theorem heap_setCells (b : Nat) : ∀ (vs : List Value) (o : Nat) (w : World) (k : Nat), k ≠ b → (w.setCells b o vs).heap[k]? = w.heap[k]?
  | [], _, _, _, _ => rfl
  | v :: r, o, w, k, h => by rw [World.setCells, heap_setCells b r (o + 1) _ k h, Below.heap_setCell _ _ _ _ h]
theorem size_setCells (b : Nat) : ∀ (vs : List Value) (o : Nat) (w : World), (w.setCells b o vs).heap.size = w.heap.size
  | [], _, _ => rfl
  | v :: r, o, w => by rw [World.setCells, size_setCells b r (o + 1)]; simp [World.setCell]
theorem same_setCells (b : Nat) : ∀ (vs : List Value) (o : Nat) (w : World), (w.setCells b o vs).os = w.os ∧ (w.setCells b o vs).tape = w.tape ∧ (w.setCells b o vs).output = w.output
  | [], _, _ => ⟨rfl, rfl, rfl⟩
  | v :: r, o, w => by rw [World.setCells]; exact same_setCells b r (o + 1) _

theorem Blk.setCells {g : Nat} {t : TypeId} : ∀ (vs : List Value) (o : Nat) (w : World) (cs : Array Value), Blk w g t cs →
    ∃ cs', Blk (w.setCells g o vs) g t cs' ∧ cs'.size = cs.size ∧ ∀ i, i < cs.size → cs'[i]? = if o ≤ i ∧ i < o + vs.length then vs[i - o]? else cs[i]?
  | [], o, w, cs, h => ⟨cs, h, rfl, fun i _ => by rw [if_neg (by simp only [List.length_nil]; omega)]⟩
  | v :: r, o, w, cs, h => by
    obtain ⟨cs', h1, h2, h3⟩ := Blk.setCells r (o + 1) _ _ (h.set o v)
    refine ⟨cs', h1, by simpa using h2, fun i hi => ?_⟩
    rw [h3 i (by simpa using hi)]
    by_cases hoi : o = i
    · subst hoi
      rw [if_neg (by omega), if_pos (by simp)]
      simp [hi]
    · by_cases h4 : o + 1 ≤ i ∧ i < o + 1 + r.length
      · rw [if_pos h4, if_pos (by simp; omega), show i - o = (i - (o + 1)) + 1 by omega, List.getElem?_cons_succ]
      · rw [if_neg h4, if_neg (by simp; omega), Array.getElem?_setIfInBounds_ne hoi]

/-- Stored whole. -/
theorem Arr.stored (h : Arr w g t L) (hM : M.length = L.length) : Arr (w.setCells g 0 M) g t M := by
  obtain ⟨cs', k1, k2, k3⟩ := Blk.setCells M 0 w _ h
  have hs : L.toArray.size = L.length := by simp
  have : cs' = M.toArray := by
    apply Array.ext_getElem?
    intro i
    rcases Nat.lt_or_ge i L.length with hi | hi
    · rw [k3 i (by omega), if_pos (by simp [hM, hi])]
      simp
    · rw [Array.getElem?_eq_none (by omega), Array.getElem?_eq_none (by simp [hM, hi])]
  rw [this] at k1
  exact k1
theorem below_setCells {B : Nat} {w0 : World} (hb : Below B w0 w) (hg : B ≤ g) (M : List Value) (o : Nat) : Below B w0 (w.setCells g o M) := by
  obtain ⟨h1, h2, h3⟩ := same_setCells g M o w
  exact hb.trans ⟨h1, h2, h3, by rw [size_setCells]; exact Nat.le_refl _, fun k hk => heap_setCells g _ o w k (by omega)⟩
theorem Arr.otherCells {g' o : Nat} (h : Arr w g t L) (hg : g ≠ g') (M : List Value) : Arr (w.setCells g' o M) g t L := (heap_setCells g' M o w g hg).trans h
end
/-- An array of one-cell elements, by value, indexed. -/
theorem run_index_arr {P : Program} {w : World} {t e : TypeId} {n : Nat} (ht : P.underlying t = some (.array n e)) (he : P.plainKey e = true) (hi : (P.info? e).isSome = true) (hc : P.cellsOf e = 1) {xs : Array Value} {j : Nat} {v : Value} (hj : j < n) (hx : xs[j]? = some v) :
    (Instr.index t (.agg xs) (.int .i64 (j : Nat))).run P w = .ok v w := by
  cases hinf : P.info? e with
  | none => rw [hinf] at hi; cases hi
  | some i =>
    have hs := run_sizeOf (P := P) w hinf
    rw [hc] at hs
    have hp := run_part_plain (P := P) w he hx
    simp [Instr.index, asIntOf, run_underlying ht, hs, hp]
    intro h
    omega
end Go.Proofs.Ytddbobphmakmmaa
