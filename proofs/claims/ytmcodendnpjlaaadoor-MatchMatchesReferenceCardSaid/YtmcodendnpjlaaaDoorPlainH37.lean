/- Chapter 37, plain: what the closure computes, round by round; its bounds; bits of small masks. No program here. -/
import Derived.Test.YtmcodendnpjlaaaDoorPlainC37
import Derived.Test.YtmcodendnpjlaaaDoorKit
import Derived.Laws.BitsAllLaws
namespace Go.Proofs.YtmcodendnpjlaaaDoor

theorem i64_and_nat (a b : Nat) (ha : a < 4611686018427387904) (hb : b < 4611686018427387904) : bits .and .i64 (a : Int) (b : Int) = ((a &&& b : Nat) : Int) := by
  have hx : a &&& b < 2 ^ 62 := Nat.and_lt_two_pow _ (by omega)
  have e : ∀ c : Nat, c < 4611686018427387904 → (BitVec.ofInt 64 (c : Int)).toNat = c := fun c hc => by
    rw [BitVec.ofInt_natCast, BitVec.toNat_ofNat]; exact Nat.mod_eq_of_lt (by omega)
  show IntKind.i64.wrap ((BitVec.ofInt 64 (a : Int) &&& BitVec.ofInt 64 (b : Int)).toNat : Int) = _
  rw [BitVec.toNat_and, e a ha, e b hb]
  exact IntWalk.i64_in _ (by omega)
theorem i64_or_nat (a b : Nat) (ha : a < 4611686018427387904) (hb : b < 4611686018427387904) : bits .or .i64 (a : Int) (b : Int) = ((a ||| b : Nat) : Int) := by
  have hx : a ||| b < 2 ^ 62 := Nat.or_lt_two_pow (by omega) (by omega)
  have e : ∀ c : Nat, c < 4611686018427387904 → (BitVec.ofInt 64 (c : Int)).toNat = c := fun c hc => by
    rw [BitVec.ofInt_natCast, BitVec.toNat_ofNat]; exact Nat.mod_eq_of_lt (by omega)
  show IntKind.i64.wrap ((BitVec.ofInt 64 (a : Int) ||| BitVec.ofInt 64 (b : Int)).toNat : Int) = _
  rw [BitVec.toNat_or, e a ha, e b hb]
  exact IntWalk.i64_in _ (by omega)
theorem and_bit (u j : Nat) : u &&& 1 <<< j = if u.testBit j then 1 <<< j else 0 := by
  apply Nat.eq_of_testBit_eq
  intro k
  rw [Nat.testBit_and, Nat.one_shiftLeft, Nat.testBit_two_pow]
  by_cases h : j = k
  · subst h
    cases hb : u.testBit j <;> simp
  · cases hb : u.testBit j <;> simp [h]
theorem or_lt {u j : Nat} (hu : u < 256) (hj : j < 8) : u ||| 1 <<< j < 256 := by
  have h1 : 1 <<< j < 2 ^ 8 := by rw [Nat.one_shiftLeft]; exact Nat.pow_lt_pow_right (by omega) hj
  have := Nat.or_lt_two_pow (n := 8) (x := u) (y := 1 <<< j) (by omega) h1
  omega
theorem shl_lt {j : Nat} (hj : j < 8) : 1 <<< j < 256 ∧ 0 < 1 <<< j := by
  rw [Nat.one_shiftLeft]
  have h1 : 2 ^ j < 2 ^ 8 := Nat.pow_lt_pow_right (by omega) hj
  exact ⟨by omega, Nat.pow_pos (by omega)⟩

section
variable (ok : Nat → Nat → Bool) (d : Nat → Nat → Int) (n m : Nat)
/-- What the closure has after t rounds, k + 1 entries before the end. -/
def prt (k used t : Nat) : Fd := (List.range t).foldl (pick ok d (n - (k + 1)) used (lst ok d n m k)) ⟨(lst ok d n m k used).pairs, (lst ok d n m k used).cost + 5⟩
theorem prt_zero (k used : Nat) : prt ok d n m k used 0 = ⟨(lst ok d n m k used).pairs, (lst ok d n m k used).cost + 5⟩ := rfl
theorem prt_succ (k used t : Nat) : prt ok d n m k used (t + 1) = pick ok d (n - (k + 1)) used (lst ok d n m k) (prt ok d n m k used t) t := by
  unfold prt
  rw [List.range_succ, List.foldl_append]
  rfl
theorem lst_succ (k used : Nat) : lst ok d n m (k + 1) used = prt ok d n m k used m := rfl
end
/-- Small enough. -/
structure FdOk (f : Fd) : Prop where
  len : f.pairs.length ≤ 8
  lo : -1000 ≤ f.cost
  hi : f.cost ≤ 1000
section
variable {ok : Nat → Nat → Bool} {d : Nat → Nat → Int} {n m : Nat}
theorem cost_nil (i used : Nat) : costP d n m i used [] = 5 * ((n - i : Nat) : Int) + 5 * (leftE m used : Nat) := by simp [costP, sumD]
theorem leftE_le (m used : Nat) : leftE m used ≤ m := by
  unfold leftE
  exact Nat.le_trans (List.length_filter_le _ _) (by simp)
theorem fdOk_of (hd : ∀ i j, 0 ≤ d i j) (hn : n ≤ 8) (hm : m ≤ 8) {i used : Nat} {f : Fd} (hv : VP ok n m i used f.pairs) (hc : f.cost = costP d n m i used f.pairs) (hl : f.cost ≤ costP d n m i used []) : FdOk f := by
  have h1 := hv.len_n
  have h2 := leftE_le m used
  have h3 := sumD_pos hd f.pairs
  rw [cost_nil] at hl
  refine ⟨by omega, ?_, by omega⟩
  rw [hc]
  unfold costP
  omega
theorem lst_ok (hd : ∀ i j, 0 ≤ d i j) (hn : n ≤ 8) (hm : m ≤ 8) {k : Nat} (hk : k ≤ n) (used : Nat) : FdOk (lst ok d n m k used) := by
  have h := lst_best (ok := ok) (d := d) (m := m) k hk used
  exact fdOk_of hd hn hm h.valid h.cost (h.le trivial)
theorem prt_ok (hd : ∀ i j, 0 ≤ d i j) (hn : n ≤ 8) (hm : m ≤ 8) {k : Nat} (hk : k + 1 ≤ n) (used : Nat) {t : Nat} (ht : t ≤ m) : FdOk (prt ok d n m k used t) := by
  have he : n - (k + 1) + 1 = n - k := by omega
  obtain ⟨f, hf, hv, hc, h1, _⟩ := picks (ok := ok) (d := d) (n := n) (m := m) (e := n - (k + 1)) (used := used) (rec := lst ok d n m k) (by omega) (by rw [he]; exact lst_best k (by omega) used) (fun j _ _ => by rw [he]; exact lst_best k (by omega) _) t ht
  have : prt ok d n m k used t = f := hf
  rw [this]
  have h2 := h1 [] trivial
  refine fdOk_of hd hn hm hv hc ?_
  unfold Fd.less at h2
  split at h2
  · rename_i h3
    simp only at h3
    omega
  · simp at h2; exact h2
end
/-- How many stores a call makes at most. -/
def Tn : Nat → Nat
  | 0 => 1
  | k + 1 => 1 + 9 * Tn k
theorem Tn_le : ∀ k, k ≤ 8 → Tn k ≤ 100000000 := fun k hk => by
  have : k = 0 ∨ k = 1 ∨ k = 2 ∨ k = 3 ∨ k = 4 ∨ k = 5 ∨ k = 6 ∨ k = 7 ∨ k = 8 := by omega
  rcases this with rfl | rfl | rfl | rfl | rfl | rfl | rfl | rfl | rfl <;> decide
theorem leftE_succ (used t : Nat) : leftE (t + 1) used = leftE t used + (if used.testBit t then 0 else 1) := by
  unfold leftE
  rw [List.range_succ, List.filter_append, List.length_append]
  cases h : used.testBit t <;> simp [h]
end Go.Proofs.YtmcodendnpjlaaaDoor
