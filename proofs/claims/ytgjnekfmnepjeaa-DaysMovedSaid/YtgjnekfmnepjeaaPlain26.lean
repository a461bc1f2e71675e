/- Chapter 26 in plain Lean: what the functions of the package days and of its reference return. -/
namespace Go.Proofs.Ytgjnekfmnepjeaa

def inBand (n a b : Int) : Bool := decide (a ≤ n) && decide (n ≤ b)

/-- The keys strictly increase from above the first number on, and none is greater than the second. -/
def incr (most : Int) : Int → List Int → Bool
  | _, [] => true
  | b, k :: ks => (decide (b < k) && decide (k ≤ most)) && incr most k ks

def validCal (o : Int) (cs : List (Int × Int)) (hs : List Int) : Bool :=
  (decide (cs.length ≤ 16) && decide (hs.length ≤ 32) && inBand o (-1440) 1440) && (cs.all fun x => inBand x.2 (-1440) 1440) && incr 52560000 (-1) (cs.map (·.1)) && incr 36500 (-1) hs

/-- The offset of a minute. -/
def offAt (m : Int) : Int → List (Int × Int) → Int
  | o, [] => o
  | o, x :: xs => offAt m (if x.1 ≤ m then x.2 else o) xs

def localOf (o : Int) (cs : List (Int × Int)) (hs : List Int) (m : Int) : Int × Int × Int :=
  if validCal o cs hs && inBand m 0 52560000 then ((m + offAt m o cs) / 1440, (m + offAt m o cs) % 1440, 0) else (0, 0, 1)

def weekOf (r : Int) : Int := if r = 6 then 2 else if r = 5 then 1 else 0

def typeOf (o : Int) (cs : List (Int × Int)) (hs : List Int) (d : Int) : Int × Int :=
  if validCal o cs hs && inBand d (-1) 36501 then (if hs.contains d then 2 else weekOf (d % 7), 0) else (0, 1)

theorem drop_getD {α : Type} (l : List α) (k : Nat) (h : k < l.length) (d : α) : l.drop k = l.getD k d :: l.drop (k + 1) := by
  rw [List.drop_eq_getElem_cons h, List.getD_eq_getElem?_getD, List.getElem?_eq_getElem h]
  rfl

/-- What is left of the list is in order if all is. -/
def restIncr (most b : Int) (ks : List Int) (k : Nat) : Prop := incr most (-1) ks = incr most b (ks.drop k)

theorem restIncr_zero (most : Int) (ks : List Int) : restIncr most (-1) ks 0 := rfl
theorem restIncr_end {most b : Int} {ks : List Int} (h : restIncr most b ks ks.length) : incr most (-1) ks = true := by
  rw [h, List.drop_length]; rfl
theorem restIncr_bad {most b x : Int} {ks : List Int} {k : Nat} (h : restIncr most b ks k) (hk : k < ks.length) (hx : ks.getD k 0 = x) (hb : x ≤ b ∨ most < x) : incr most (-1) ks = false := by
  rw [h, drop_getD ks k hk 0, hx]
  unfold incr
  rcases hb with hb | hb
  · rw [decide_eq_false (show ¬ b < x by omega)]; rfl
  · rw [decide_eq_false (show ¬ x ≤ most by omega)]; simp
theorem restIncr_step {most b x : Int} {ks : List Int} {k : Nat} (h : restIncr most b ks k) (hk : k < ks.length) (hx : ks.getD k 0 = x) (h1 : b < x) (h2 : x ≤ most) : restIncr most x ks (k + 1) := by
  unfold restIncr at h ⊢
  rw [h, drop_getD ks k hk 0, hx]
  rw [incr, decide_eq_true h1, decide_eq_true h2]
  simp

theorem getD_map {α : Type} (l : List α) (f : α → Int) (k : Nat) (h : k < l.length) (d : α) (e : Int) : (l.map f).getD k e = f (l.getD k d) := by
  simp [List.getD_eq_getElem?_getD, h]

/-- The first c keys are at most n, the others are greater. -/
structure Cut (ks : List Int) (n : Int) (c : Nat) : Prop where
  len : c ≤ ks.length
  low : ∀ i, i < c → ks.getD i 0 ≤ n
  high : ∀ i, c ≤ i → i < ks.length → n < ks.getD i 0

/-- The first k changes have offsets. -/
def offs (cs : List (Int × Int)) (k : Nat) : Prop := (cs.all fun x => inBand x.2 (-1440) 1440) = (cs.drop k).all fun x => inBand x.2 (-1440) 1440

theorem offs_zero (cs : List (Int × Int)) : offs cs 0 := rfl
theorem offs_end {cs : List (Int × Int)} (h : offs cs cs.length) : (cs.all fun x => inBand x.2 (-1440) 1440) = true := by rw [h, List.drop_length]; rfl
theorem offs_step {cs : List (Int × Int)} {k : Nat} {y : Int} (h : offs cs k) (hk : k < cs.length) (hy : (cs.getD k (0, 0)).2 = y) (hb : inBand y (-1440) 1440 = true) : offs cs (k + 1) := by
  unfold offs at h ⊢
  rw [h, drop_getD cs k hk (0, 0), List.all_cons, hy, hb]
  rfl
theorem offs_bad {cs : List (Int × Int)} {k : Nat} {y : Int} (h : offs cs k) (hk : k < cs.length) (hy : (cs.getD k (0, 0)).2 = y) (hb : inBand y (-1440) 1440 = false) : (cs.all fun x => inBand x.2 (-1440) 1440) = false := by
  rw [h, drop_getD cs k hk (0, 0), List.all_cons, hy, hb]
  rfl

theorem valid_c {o : Int} {cs : List (Int × Int)} {hs : List Int} (h : ¬ cs.length ≤ 16) : validCal o cs hs = false := by simp [validCal, h]
theorem valid_h {o : Int} {cs : List (Int × Int)} {hs : List Int} (h : ¬ hs.length ≤ 32) : validCal o cs hs = false := by simp [validCal, h]
theorem valid_o {o : Int} {cs : List (Int × Int)} {hs : List Int} (h : inBand o (-1440) 1440 = false) : validCal o cs hs = false := by simp [validCal, h]
theorem valid_a {o : Int} {cs : List (Int × Int)} {hs : List Int} (h : (cs.all fun x => inBand x.2 (-1440) 1440) = false) : validCal o cs hs = false := by
  unfold validCal; rw [h]; simp
theorem valid_i {o : Int} {cs : List (Int × Int)} {hs : List Int} (h : incr 52560000 (-1) (cs.map (·.1)) = false) : validCal o cs hs = false := by
  unfold validCal; rw [h]; simp
theorem valid_j {o : Int} {cs : List (Int × Int)} {hs : List Int} (h : incr 36500 (-1) hs = false) : validCal o cs hs = false := by
  unfold validCal; rw [h]; simp
theorem valid_mk {o : Int} {cs : List (Int × Int)} {hs : List Int} (h1 : cs.length ≤ 16) (h2 : hs.length ≤ 32) (h3 : inBand o (-1440) 1440 = true) (h4 : (cs.all fun x => inBand x.2 (-1440) 1440) = true)
    (h5 : incr 52560000 (-1) (cs.map (·.1)) = true) (h6 : incr 36500 (-1) hs = true) : validCal o cs hs = true := by
  unfold validCal; rw [h3, h4, h5, h6, decide_eq_true h1, decide_eq_true h2]; rfl

theorem split_plain (n b q r : Int) (hb : 0 < b) (hq : n.tdiv b = q) (hr : n.tmod b = r) :
    (r < 0 → n / b = q - 1 ∧ n % b = r + b) ∧ (0 ≤ r → n / b = q ∧ n % b = r) := by
  have h1 : b * q + r = n := by rw [← hq, ← hr]; exact Int.mul_tdiv_add_tmod n b
  have h2 : r < b := by rw [← hr]; exact Int.tmod_lt_of_pos n hb
  have h3 : -b < r := by
    rw [← hr]
    have := Int.tmod_lt_of_pos (-n) hb
    rw [Int.neg_tmod] at this
    omega
  have key : ∀ q' r' : Int, b * q' + r' = n → 0 ≤ r' → r' < b → n / b = q' ∧ n % b = r' := fun q' r' e h0 h4 =>
    (Int.ediv_emod_unique hb).2 ⟨by omega, h0, h4⟩
  refine ⟨fun h => key _ _ ?_ (by omega) (by omega), fun h => key _ _ h1 h h2⟩
  rw [Int.mul_sub]
  omega

theorem split_bounds (n b q r : Int) (hb : 0 < b) (hq : n.tdiv b = q) (hr : n.tmod b = r) (M : Int) (h1 : -M ≤ n) (h2 : n ≤ M) : -M ≤ q ∧ q ≤ M ∧ -b < r ∧ r < b := by
  have h3 : r < b := by rw [← hr]; exact Int.tmod_lt_of_pos n hb
  have h4 : -b < r := by
    rw [← hr]
    have := Int.tmod_lt_of_pos (-n) hb
    rw [Int.neg_tmod] at this
    omega
  have h5 : q.natAbs ≤ n.natAbs := by
    rw [← hq, Int.natAbs_tdiv]
    exact Nat.div_le_self _ _
  omega

end Go.Proofs.Ytgjnekfmnepjeaa
