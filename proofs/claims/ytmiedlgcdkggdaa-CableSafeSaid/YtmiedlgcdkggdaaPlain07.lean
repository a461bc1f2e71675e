/- Chapter 07 in plain Lean: temperatures of cables. No statement about the program. -/
import Derived.Below
namespace Go.Proofs.Ytmiedlgcdkggdaa

def zeroC (a m g l d : Int) : Bool := decide (a = 0 ∧ m = 0 ∧ g = 0 ∧ l = 0 ∧ d = 0)
def boundC (a m g l d : Int) : Bool := decide (0 ≤ a ∧ a ≤ 200000 ∧ a < m ∧ m ≤ 200000 ∧ 0 ≤ g ∧ g ≤ 1000 ∧ 0 ≤ l ∧ l ≤ 1000 ∧ 1 ≤ d ∧ d ≤ 1000000)
def validC (a m g l d : Int) : Bool := zeroC a m g l d || boundC a m g l d
def isT (t : Int) : Bool := decide (0 ≤ t ∧ t ≤ 1000000000)
def isI (x : Int) : Bool := decide (0 ≤ x ∧ x ≤ 1000)

theorem zeroC_iff {a m g l d : Int} : zeroC a m g l d = true ↔ a = 0 ∧ m = 0 ∧ g = 0 ∧ l = 0 ∧ d = 0 := by simp [zeroC]
theorem boundC_iff {a m g l d : Int} : boundC a m g l d = true ↔ 0 ≤ a ∧ a ≤ 200000 ∧ a < m ∧ m ≤ 200000 ∧ 0 ≤ g ∧ g ≤ 1000 ∧ 0 ≤ l ∧ l ≤ 1000 ∧ 1 ≤ d ∧ d ≤ 1000000 := by simp [boundC]
theorem bound_of {a m g l d : Int} (h : validC a m g l d = true) (hz : zeroC a m g l d = false) : 0 ≤ a ∧ a ≤ 200000 ∧ a < m ∧ m ≤ 200000 ∧ 0 ≤ g ∧ g ≤ 1000 ∧ 0 ≤ l ∧ l ≤ 1000 ∧ 1 ≤ d ∧ d ≤ 1000000 := by
  rw [validC, hz, Bool.false_or] at h
  exact boundC_iff.1 h

/-- A quotient, rounded up. -/
def upQ (n d : Int) : Int := -((-n) / d)

theorem upQ_le {n d k : Int} (hd : 0 < d) : upQ n d ≤ k ↔ n ≤ k * d := by
  unfold upQ
  have h : -k ≤ (-n) / d ↔ -k * d ≤ -n := Int.le_ediv_iff_mul_le hd
  have e : -k * d = -(k * d) := Int.neg_mul ..
  rw [e] at h
  constructor
  · intro hk
    have := h.1 (by omega)
    omega
  · intro hk
    have := h.2 (by omega)
    omega

theorem lt_upQ {n d k : Int} (hd : 0 < d) : k < upQ n d ↔ k * d < n := by
  have h := @upQ_le n d k hd
  constructor
  · intro hk
    refine Int.not_le.1 fun hn => ?_
    have := h.2 hn
    omega
  · intro hk
    refine Int.not_le.1 fun hn => ?_
    have := h.1 hn
    omega

theorem upQ_eq {n d q : Int} (hd : 0 < d) (h1 : n ≤ q * d) (h2 : (q - 1) * d < n) : upQ n d = q := by
  have a := (upQ_le hd).2 h1
  have b := (lt_upQ hd).2 h2
  omega

theorem up_pos {n d : Int} (hd : 0 < d) (h : 0 < n.tmod d) : n.tdiv d + 1 = upQ n d := by
  have e := Int.mul_tdiv_add_tmod n d
  have hlt : n.tmod d < d := Int.tmod_lt_of_pos n hd
  refine (upQ_eq hd ?_ ?_).symm
  · have : (n.tdiv d + 1) * d = d * n.tdiv d + d := by rw [Int.add_mul, Int.one_mul, Int.mul_comm]
    omega
  · have : (n.tdiv d + 1 - 1) * d = d * n.tdiv d := by rw [Int.add_sub_cancel, Int.mul_comm]
    omega

theorem up_not {n d : Int} (hd : 0 < d) (h : ¬ 0 < n.tmod d) : n.tdiv d = upQ n d := by
  have e := Int.mul_tdiv_add_tmod n d
  have hgt : -d < n.tmod d := by
    rcases Int.le_total 0 n with hn | hn
    · have := Int.tmod_nonneg d hn
      omega
    · have h1 : (-n).tmod d < d := Int.tmod_lt_of_pos _ hd
      rw [Int.neg_tmod] at h1
      omega
  refine (upQ_eq hd ?_ ?_).symm
  · have : n.tdiv d * d = d * n.tdiv d := Int.mul_comm ..
    omega
  · have : (n.tdiv d - 1) * d = d * n.tdiv d - d := by rw [Int.sub_mul, Int.one_mul, Int.mul_comm]
    omega

/-- A product of two numbers in ranges. -/
theorem mul_range {x y X Y : Int} (hx0 : 0 ≤ x) (hx : x ≤ X) (hy0 : 0 ≤ y) (hy : y ≤ Y) : 0 ≤ x * y ∧ x * y ≤ X * Y :=
  ⟨Int.mul_nonneg hx0 hy0, Int.mul_le_mul hx hy hy0 (by omega)⟩

/-- What a tick divides. -/
def num (a g l d t x : Int) : Int := g * x * x - min l d * (t - a)
/-- The temperature after a tick. -/
def nextT (a g l d t x : Int) : Int := t + upQ (num a g l d t x) d

theorem heat_range {g x : Int} (hg0 : 0 ≤ g) (hg : g ≤ 1000) (hx0 : 0 ≤ x) (hx : x ≤ 1000) : 0 ≤ g * x ∧ g * x ≤ 1000000 ∧ 0 ≤ g * x * x ∧ g * x * x ≤ 1000000000 := by
  have h1 := mul_range hg0 hg hx0 hx
  have h2 := mul_range h1.1 h1.2 hx0 hx
  omega

theorem loss_range {l d t a : Int} (hl0 : 0 ≤ l) (hl : l ≤ 1000) (hd : 1 ≤ d) (hlo : -1000000000 ≤ t - a) (hhi : t - a ≤ 1000000000) : -1000000000000 ≤ min l d * (t - a) ∧ min l d * (t - a) ≤ 1000000000000 := by
  have hm : 0 ≤ min l d ∧ min l d ≤ 1000 := by omega
  rcases Int.le_total 0 (t - a) with h | h
  · have := mul_range hm.1 hm.2 h hhi
    omega
  · have := mul_range hm.1 hm.2 (show 0 ≤ -(t - a) by omega) (show -(t - a) ≤ 1000000000 by omega)
    rw [Int.mul_neg] at this
    omega

section
variable {a m g l d t x : Int}

/-- One tick is at most k warmer. -/
theorem next_le {k : Int} (hd : 0 < d) : nextT a g l d t x ≤ k ↔ num a g l d t x ≤ (k - t) * d := by
  have h := @upQ_le (num a g l d t x) d (k - t) hd
  unfold nextT
  rw [← h]
  constructor <;> intro h' <;> omega

theorem lt_next {k : Int} (hd : 0 < d) : k < nextT a g l d t x ↔ (k - t) * d < num a g l d t x := by
  have h := @lt_upQ (num a g l d t x) d (k - t) hd
  unfold nextT
  rw [← h]
  constructor <;> intro h' <;> omega

/-- The loss that counts, times a number that is not negative, is at most d times it. -/
theorem loss_le (hl0 : 0 ≤ l) (hd : 1 ≤ d) {y : Int} (hy : 0 ≤ y) : 0 ≤ min l d * y ∧ min l d * y ≤ y * d := by
  have hm : 0 ≤ min l d ∧ min l d ≤ d := by omega
  refine ⟨Int.mul_nonneg hm.1 hy, ?_⟩
  rw [Int.mul_comm y d]
  exact Int.mul_le_mul_of_nonneg_right hm.2 hy

/-- Not above Most, if the current is permitted. -/
theorem next_safe (hl0 : 0 ≤ l) (hd : 1 ≤ d) (ht : t ≤ m) (hp : g * x * x ≤ min l d * (m - a)) : nextT a g l d t x ≤ m := by
  rw [next_le (by omega)]
  unfold num
  have h1 := (loss_le hl0 hd (show 0 ≤ m - t by omega)).2
  have h2 : min l d * (m - a) = min l d * (m - t) + min l d * (t - a) := by rw [← Int.mul_add]; congr 1; omega
  omega

/-- Above Most, or at least one more, if it isn't. -/
theorem next_tight (hl0 : 0 ≤ l) (hd : 1 ≤ d) (hp : min l d * (m - a) < g * x * x) : m < nextT a g l d t x ∨ t + 1 ≤ nextT a g l d t x := by
  rcases Int.le_total t m with ht | ht
  · right
    have h1 := (loss_le hl0 hd (show 0 ≤ m - t by omega)).1
    have h2 : min l d * (m - a) = min l d * (m - t) + min l d * (t - a) := by rw [← Int.mul_add]; congr 1; omega
    have := (lt_next (a := a) (g := g) (l := l) (t := t) (x := x) (k := t) (show 0 < d by omega)).2 (by unfold num; rw [Int.sub_self, Int.zero_mul]; omega)
    omega
  · left
    rw [lt_next (by omega)]
    unfold num
    have h1 := (loss_le hl0 hd (show 0 ≤ t - m by omega)).2
    have h2 : min l d * (t - a) = min l d * (t - m) + min l d * (m - a) := by rw [← Int.mul_add]; congr 1; omega
    have h3 : (m - t) * d = -((t - m) * d) := by rw [← Int.neg_mul]; congr 1; omega
    omega

/-- Not cooler than Ambient, or than it was. -/
theorem next_ge {b : Int} (hg0 : 0 ≤ g * x * x) (hl0 : 0 ≤ l) (hd : 1 ≤ d) (hb : b ≤ t) (hba : b ≤ a) : b ≤ nextT a g l d t x := by
  have : b - 1 < nextT a g l d t x := by
    rw [lt_next (by omega)]
    unfold num
    rcases Int.le_total t a with h | h
    · have h1 := (loss_le hl0 hd (show 0 ≤ a - t by omega)).1
      have h2 : min l d * (t - a) = -(min l d * (a - t)) := by rw [← Int.mul_neg]; congr 1; omega
      have h3 : (b - 1 - t) * d = -((t - b + 1) * d) := by rw [← Int.neg_mul]; congr 1; omega
      have h4 := Int.mul_le_mul (show 1 ≤ t - b + 1 by omega) hd (by omega) (by omega)
      omega
    · have h1 := (loss_le hl0 hd (show 0 ≤ t - a by omega)).2
      have h3 : (b - 1 - t) * d = -((t - a) * d) - (a - b + 1) * d := by rw [← Int.neg_mul, ← Int.sub_mul]; congr 1; omega
      have h4 := Int.mul_le_mul (show 1 ≤ a - b + 1 by omega) hd (by omega) (by omega)
      omega
  omega

/-- Without a current no warmer, if not cooler than Ambient. -/
theorem next_rest (hl0 : 0 ≤ l) (hd : 1 ≤ d) (ht : a ≤ t) : nextT a g l d t 0 ≤ t := by
  rw [next_le (by omega)]
  unfold num
  have h1 := (loss_le hl0 hd (show 0 ≤ t - a by omega)).1
  rw [Int.sub_self, Int.zero_mul, Int.mul_zero]
  omega

theorem sq_mono {x y : Int} (hg : 0 ≤ g) (hx : 0 ≤ x) (hxy : x ≤ y) : g * x * x ≤ g * y * y := by
  have h1 : g * x ≤ g * y := Int.mul_le_mul_of_nonneg_left hxy hg
  exact Int.mul_le_mul h1 hxy hx (Int.mul_nonneg hg (by omega))

/-- Warmer and with more current: not cooler after it. -/
theorem next_mono {u y : Int} (hg : 0 ≤ g) (hl0 : 0 ≤ l) (hd : 1 ≤ d) (hx : 0 ≤ x) (hxy : x ≤ y) (htu : t ≤ u) : nextT a g l d t x ≤ nextT a g l d u y := by
  rw [next_le (by omega)]
  have h := (upQ_le (n := num a g l d u y) (d := d) (k := upQ (num a g l d u y) d) (by omega)).1 (Int.le_refl _)
  have hs := sq_mono hg hx hxy
  have h1 := (loss_le hl0 hd (show 0 ≤ u - t by omega)).2
  have h2 : min l d * (u - a) = min l d * (u - t) + min l d * (t - a) := by rw [← Int.mul_add]; congr 1; omega
  have h3 : (nextT a g l d u y - t) * d = upQ (num a g l d u y) d * d + (u - t) * d := by rw [← Int.add_mul]; congr 1; unfold nextT; omega
  unfold num at h ⊢
  unfold num at h3
  omega

end

/-- The greatest current with a bounded heat. -/
def PermitOf (g R p : Int) : Prop := 0 ≤ p ∧ p ≤ 1000 ∧ g * p * p ≤ R ∧ ∀ i, p < i → i ≤ 1000 → R < g * i * i

theorem permit_mono {g R g' R' p p' : Int} (h : PermitOf g R p) (h' : PermitOf g' R' p') (hg : g' ≤ g) (hR : R ≤ R') : p ≤ p' := by
  obtain ⟨a1, a2, a3, _⟩ := h
  obtain ⟨b1, b2, b3, b4⟩ := h'
  refine Int.not_lt.1 fun hlt => ?_
  have h1 := b4 p hlt a2
  have h2 : g' * p ≤ g * p := Int.mul_le_mul_of_nonneg_right hg a1
  have h3 : g' * p * p ≤ g * p * p := Int.mul_le_mul_of_nonneg_right h2 a1
  omega

theorem permit_uniq {g R p p' : Int} (h : PermitOf g R p) (h' : PermitOf g R p') : p = p' := by
  have a := permit_mono h h' (Int.le_refl _) (Int.le_refl _)
  have b := permit_mono h' h (Int.le_refl _) (Int.le_refl _)
  omega

theorem permit_ex {g R : Int} (hR : 0 ≤ R) : ∀ n : Nat, n ≤ 1000 → (∀ i : Int, (n : Int) < i → i ≤ 1000 → R < g * i * i) → ∃ p, PermitOf g R p
  | 0, _, h => ⟨0, by omega, by omega, by simpa using hR, fun i hi hi2 => h i hi hi2⟩
  | n + 1, hn, h => by
    by_cases hc : g * ((n + 1 : Nat) : Int) * ((n + 1 : Nat) : Int) ≤ R
    · exact ⟨((n + 1 : Nat) : Int), by omega, by omega, hc, h⟩
    · refine permit_ex hR n (by omega) fun i hi hi2 => ?_
      rcases Int.lt_or_eq_of_le (show ((n + 1 : Nat) : Int) ≤ i by omega) with hlt | rfl
      · exact h i hlt hi2
      · omega

theorem permit_iff {g R p : Int} (hg : 0 ≤ g) (h : PermitOf g R p) {i : Int} (hi : 0 ≤ i) (hi2 : i ≤ 1000) : g * i * i ≤ R ↔ i ≤ p := by
  obtain ⟨a1, a2, a3, a4⟩ := h
  constructor
  · intro hR
    refine Int.not_lt.1 fun hlt => ?_
    have := a4 i hlt hi2
    omega
  · intro hip
    exact Int.le_trans (sq_mono hg hi hip) a3

/-- What cable.Next returns. -/
def nextN (a m g l d t x : Int) : Int := if zeroC a m g l d then t else nextT a g l d t x
def nextOk (a m g l d t x : Int) : Bool := validC a m g l d && isT t && isI x

theorem nextN_range {a m g l d t x : Int} (h : nextOk a m g l d t x = true) : 0 ≤ nextN a m g l d t x ∧ nextN a m g l d t x ≤ 10000000000 := by
  simp only [nextOk, Bool.and_eq_true, isT, isI, decide_eq_true_eq] at h
  obtain ⟨⟨hv, ht⟩, hx⟩ := h
  unfold nextN
  split
  · omega
  · rename_i hz
    obtain ⟨b1, b2, b3, b4, b5, b6, b7, b8, b9, b10⟩ := bound_of hv (by simpa using hz)
    have r1 := heat_range b5 b6 hx.1 hx.2
    refine ⟨next_ge r1.2.2.1 b7 b9 ht.1 b1, ?_⟩
    rw [next_le (by omega)]
    unfold num
    have r2 := loss_range (l := l) (d := d) (t := t) (a := a) b7 b8 b9 (by omega) (by omega)
    have hm : 0 ≤ min l d ∧ min l d ≤ 1000 := by omega
    have m1 := Int.mul_le_mul (Int.le_refl (10000000000 - t)) b9 (by omega) (by omega)
    rcases Int.le_total a t with h | h
    · have := Int.mul_nonneg hm.1 (show 0 ≤ t - a by omega)
      omega
    · have := mul_range hm.1 hm.2 (show 0 ≤ a - t by omega) (show a - t ≤ 200000 by omega)
      have e : min l d * (t - a) = -(min l d * (a - t)) := by rw [← Int.mul_neg]; congr 1; omega
      omega

/-- The first tick in which a cable is too warm, or -1. -/
def hotAt (a m g l d : Int) : Int → Int → List Int → Int
  | _, _, [] => -1
  | t, i, x :: xs => if (!zeroC a m g l d && decide (m < nextN a m g l d t x)) = true then i else hotAt a m g l d (nextN a m g l d t x) (i + 1) xs

theorem nextN_stay {a m g l d t x : Int} (hv : validC a m g l d = true) (ht : 0 ≤ t ∧ t ≤ 1000000000) (hx : 0 ≤ x ∧ x ≤ 1000) (hc : (!zeroC a m g l d && decide (m < nextN a m g l d t x)) = false) : 0 ≤ nextN a m g l d t x ∧ nextN a m g l d t x ≤ 1000000000 := by
  have h0 := nextN_range (a := a) (m := m) (g := g) (l := l) (d := d) (t := t) (x := x) (by simp [nextOk, hv, isT, isI, ht, hx])
  refine ⟨h0.1, ?_⟩
  cases hz : zeroC a m g l d with
  | true => rw [nextN, hz]; simpa using ht.2
  | false =>
    rw [hz] at hc
    simp only [Bool.not_false, Bool.true_and, decide_eq_false_iff_not] at hc
    have := bound_of hv hz
    omega

end Go.Proofs.Ytmiedlgcdkggdaa
