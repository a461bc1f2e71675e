/- Package auditor: rows of the call's own beside an examination. -/
import Derived.Test.YtkfmmiekajgdjaaGreatWj43
namespace Go.Proofs.YtkfmmiekajgdjaaGreat
open Go.RowKit

/-- The cells of structs of two integers. -/
def twoC (p : Int × Int) : List Value := [.int .i64 p.1, .int .i64 p.2]
def flatT (l : List (Int × Int)) : List Value := l.flatMap twoC
theorem flatT_cons (p : Int × Int) (l : List (Int × Int)) : flatT (p :: l) = twoC p ++ flatT l := rfl
theorem flatT_append (l l' : List (Int × Int)) : flatT (l ++ l') = flatT l ++ flatT l' := by simp [flatT]
theorem flatT_snoc (l : List (Int × Int)) (x : Int × Int) : flatT l ++ [.int .i64 x.1, .int .i64 x.2] = flatT (l ++ [x]) := by rw [flatT_append]; simp [flatT, twoC]
theorem flatT_len : ∀ l : List (Int × Int), (flatT l).length = l.length * 2
  | [] => rfl
  | p :: l => by rw [flatT_cons, List.length_append, flatT_len l]; simp [twoC]; omega
theorem flatT_get : ∀ (l : List (Int × Int)) (i j : Nat), i < l.length → j < 2 → (flatT l)[i * 2 + j]? = (twoC (l.getD i (0, 0)))[j]?
  | x :: l, 0, j, hi, hj => by
    rw [flatT_cons, List.getElem?_append_left (by simp [twoC]; omega)]
    simp
  | x :: l, i + 1, j, hi, hj => by
    rw [flatT_cons, List.getElem?_append_right (by simp [twoC]; omega), show (i + 1) * 2 + j - (twoC x).length = i * 2 + j by simp [twoC]; omega, flatT_get l i j (by simpa using hi) hj]
    simp
theorem ownsRow_shape' {W : World} {base : Nat} {e : TypeId} {size : Nat} {v : Value} {n : Nat} {xs : List Value} (h : W.ownsRow base e size v n xs) : ∃ o cap, v = .slice o n cap ∧ n ≤ cap := by
  rcases h.2 with ⟨rfl, rfl⟩ | ⟨g, cap, _, rfl, _, _, hc, _⟩
  · exact ⟨none, 0, rfl, Nat.le_refl _⟩
  · exact ⟨some ⟨g, 0, none⟩, cap, rfl, hc⟩
/-- Pairs, none of whose cells lies in the blocks of S. -/
def TwosS (S : List Nat) (w : World) (o : Option Addr) (l : List (Int × Int)) : Prop :=
  ∀ i, i < l.length → ∃ b off, o = some ⟨b, off, none⟩ ∧ b ∉ S ∧ w.cell? ⟨b, off + i * 2, none⟩ = some (.int .i64 (l.getD i (0, 0)).1) ∧ w.cell? ⟨b, off + i * 2 + 1, none⟩ = some (.int .i64 (l.getD i (0, 0)).2)
theorem TwosS.twos {S : List Nat} {w : World} {o : Option Addr} {l : List (Int × Int)} (h : TwosS S w o l) : Twos w o l := fun i hi => by
  obtain ⟨b, off, h1, _, h3, h4⟩ := h i hi
  exact ⟨b, off, h1, h3, h4⟩
theorem TwosS.agr {S S' : List Nat} {w w' : World} {o : Option Addr} {l : List (Int × Int)} (h : TwosS S w o l) (ha : Agr w w' S') (hs : ∀ b ∈ S', b ∈ S) : TwosS S w' o l := fun i hi => by
  obtain ⟨b, off, h1, h2, h3, h4⟩ := h i hi
  exact ⟨b, off, h1, h2, ha.cell h3 (fun h' => h2 (hs b h')), ha.cell h4 (fun h' => h2 (hs b h'))⟩
theorem TwosS.later {S : List Nat} {w w' : World} {o : Option Addr} {l : List (Int × Int)} (h : TwosS S w o l) (hb : Below w.heap.size w w') : TwosS S w' o l := h.agr (Agr.of_below (S := []) hb) (fun _ h => by cases h)
/-- An own row of pairs lies above its base. -/
theorem ownsRow_cell {W : World} {base : Nat} {e : TypeId} {size : Nat} {n cap : Nat} {xs : List Value} {o : Option Addr} (h : W.ownsRow base e size (.slice o n cap) n xs) {j : Nat} {u : Value} (hj : xs[j]? = some u) : ∃ g, o = some ⟨g, 0, none⟩ ∧ base ≤ g ∧ W.cell? ⟨g, j, none⟩ = some u := by
  rcases h.2 with ⟨_, hn⟩ | ⟨g, c, _, hv', hg, _⟩
  · have hl := h.1
    rw [hn, Nat.zero_mul] at hl
    rw [List.eq_nil_of_length_eq_zero hl] at hj
    cases hj
  · injection hv' with ho
    refine ⟨g, ho, hg, ?_⟩
    have := h.cells (g := g) (by rw [ho]; rfl) j u hj
    unfold Addr.add at this
    split at this
    · rename_i h0
      subst h0
      exact this
    · simpa using this
theorem ownsRow_twosS {W : World} {base : Nat} {e : TypeId} {n cap : Nat} {o : Option Addr} {l : List (Int × Int)} {S : List Nat} (h : W.ownsRow base e 2 (.slice o n cap) n (flatT l)) (hs : ∀ b ∈ S, b < base) : TwosS S W o l := fun i hi => by
  obtain ⟨g, ho, hg, c0⟩ := ownsRow_cell h (j := i * 2) (u := .int .i64 (l.getD i (0, 0)).1) (by have := flatT_get l i 0 hi (by omega); simpa [twoC] using this)
  obtain ⟨g', ho', _, c1⟩ := ownsRow_cell h (j := i * 2 + 1) (u := .int .i64 (l.getD i (0, 0)).2) (by have := flatT_get l i 1 hi (by omega); simpa [twoC] using this)
  rw [ho] at ho'
  obtain rfl : g = g' := by injection ho' with h1; injection h1
  exact ⟨g, 0, ho, fun hb => by have := hs g hb; omega, by simpa using c0, by simpa using c1⟩
section
variable {W wr w1 : World} {S : List Nat} {ob : Option Nat} {w0 : World} {g : Nat} {c : ClA} {f : SesA} {b : BilA} {r : Int}
theorem Agr.grown (h : Agr W wr S) (hg : wr.grownBy w1 ob) (hr : ∀ k, ob = some k → W.heap.size ≤ k) : Agr W w1 S :=
  ⟨hg.os.trans h.os, hg.tape.trans h.tape, hg.output.trans h.output, Nat.le_trans h.size hg.size, fun k hk hS => (hg.block k (Nat.lt_of_lt_of_le hk h.size) (fun e => by have := hr k e.symm; omega)).trans (h.block k hk hS)⟩
theorem ExM.grown (h : ExM w0 wr g c f b r) (hg : wr.grownBy w1 ob) (hr : ∀ k, ob = some k → g < k) : ExM w0 w1 g c f b r :=
  ⟨h.cl, h.below.grown hg h.below.size (fun k hk => by have := hr k hk; have := h.ge; omega), h.ge, (hg.block _ h.blk.lt (fun e => by have := hr g e.symm; omega)).trans h.blk⟩
end
theorem elemL : ElemI Tryz.prog 37 119 2 16 := ElemI.of Tryz.underlying37 (by kernel_rfl) (by decide)
theorem elemS : ElemI Tryz.prog 33 50 2 16 := ElemI.of Tryz.underlying33 (by kernel_rfl) (by decide)
end Go.Proofs.YtkfmmiekajgdjaaGreat
