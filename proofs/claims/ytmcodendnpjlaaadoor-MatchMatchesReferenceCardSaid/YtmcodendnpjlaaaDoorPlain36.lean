/- The distance of two texts, by recursion on the texts, and its laws: symmetric, zero for equal texts alone, triangle, parts, reversal, bounds, twins. Plain lists of numbers; no program in sight. -/
namespace Go.Proofs.YtmcodendnpjlaaaDoor

def okN (c : Nat) : Bool := (decide (65 ≤ c) && decide (c ≤ 90)) || (decide (48 ≤ c) && decide (c ≤ 57))

theorem okN_lt {c : Nat} (h : okN c = true) : c < 128 := by simp [okN] at h; omega
theorem okN_pos {c : Nat} (h : okN c = true) : c ≠ 0 := by simp [okN] at h; omega

def twin (c : Nat) : Nat :=
  if c = 79 then 48 else if c = 73 then 49 else if c = 66 then 56 else if c = 83 then 53 else if c = 90 then 50
  else if c = 48 then 79 else if c = 49 then 73 else if c = 56 then 66 else if c = 53 then 83 else if c = 50 then 90 else 0

/-- What it costs to replace a sign. -/
def rc (a b : Nat) : Nat := if a = b then 0 else if twin a = b ∧ b ≠ 0 then 1 else 2

theorem twin_cases {a : Nat} (h : twin a ≠ 0) : a = 79 ∨ a = 73 ∨ a = 66 ∨ a = 83 ∨ a = 90 ∨ a = 48 ∨ a = 49 ∨ a = 56 ∨ a = 53 ∨ a = 50 := by
  unfold twin at h
  repeat' (split at h)
  all_goals omega

theorem twin_twin {a : Nat} (h : twin a ≠ 0) : twin (twin a) = a := by
  rcases twin_cases h with rfl | rfl | rfl | rfl | rfl | rfl | rfl | rfl | rfl | rfl <;> decide

theorem twin_ne {a : Nat} (h : twin a ≠ 0) : twin a ≠ a := by
  rcases twin_cases h with rfl | rfl | rfl | rfl | rfl | rfl | rfl | rfl | rfl | rfl <;> decide

theorem rc_self (a : Nat) : rc a a = 0 := by simp [rc]
theorem rc_le (a b : Nat) : rc a b ≤ 2 := by unfold rc; split <;> (try split) <;> omega
theorem rc_zero {a b : Nat} (h : rc a b = 0) : a = b := by
  unfold rc at h
  split at h
  · assumption
  · split at h <;> omega
theorem rc_comm (a b : Nat) : rc a b = rc b a := by
  have key : ∀ x y : Nat, x ≠ y → twin x = y ∧ y ≠ 0 → twin y = x ∧ x ≠ 0 := by
    intro x y _ h
    have h1 : twin x ≠ 0 := by rw [h.1]; exact h.2
    have h2 := twin_twin h1
    rw [h.1] at h2
    refine ⟨h2, fun h0 => ?_⟩
    rw [h0] at h1
    exact h1 (by decide)
  unfold rc
  by_cases e : a = b
  · subst e; rfl
  · rw [if_neg e, if_neg (Ne.symm e)]
    by_cases h : twin a = b ∧ b ≠ 0
    · rw [if_pos h, if_pos (key a b e h)]
    · rw [if_neg h, if_neg (fun h' => h (key b a (Ne.symm e) h'))]
theorem rc_tri (a b c : Nat) : rc a c ≤ rc a b + rc b c := by
  by_cases h1 : a = b
  · subst h1; rw [rc_self]; omega
  · by_cases h2 : b = c
    · subst h2; rw [rc_self]; omega
    · have p1 : 1 ≤ rc a b := by
        rcases Nat.eq_zero_or_pos (rc a b) with h | h
        · exact absurd (rc_zero h) h1
        · exact h
      have p2 : 1 ≤ rc b c := by
        rcases Nat.eq_zero_or_pos (rc b c) with h | h
        · exact absurd (rc_zero h) h2
        · exact h
      have := rc_le a c
      omega

/-! ### The distance -/

def Erow (x : Nat) (f : List Nat → Nat) (n : Nat) : List Nat → Nat
  | [] => n
  | y :: ys => min (f ys + rc x y) (min (f (y :: ys) + 2) (Erow x f n ys + 2))

def E : List Nat → List Nat → Nat
  | [] => fun ys => 2 * ys.length
  | x :: xs => Erow x (E xs) (2 * (xs.length + 1))

theorem E_nil (ys : List Nat) : E [] ys = 2 * ys.length := rfl
theorem E_nil_right (xs : List Nat) : E xs [] = 2 * xs.length := by cases xs <;> simp [E, Erow]
theorem E_cons (x y : Nat) (xs ys : List Nat) : E (x :: xs) (y :: ys) = min (E xs ys + rc x y) (min (E xs (y :: ys) + 2) (E (x :: xs) ys + 2)) := rfl

theorem E_cons_cases (x y : Nat) (xs ys : List Nat) : E (x :: xs) (y :: ys) = E xs ys + rc x y ∨ E (x :: xs) (y :: ys) = E xs (y :: ys) + 2 ∨ E (x :: xs) (y :: ys) = E (x :: xs) ys + 2 := by
  rw [E_cons]; omega

theorem E_sub (x y : Nat) (xs ys : List Nat) : E (x :: xs) (y :: ys) ≤ E xs ys + rc x y := by rw [E_cons]; omega
theorem E_del (x : Nat) (xs ys : List Nat) : E (x :: xs) ys ≤ E xs ys + 2 := by
  cases ys with
  | nil => rw [E_nil_right, E_nil_right]; simp; omega
  | cons y ys => rw [E_cons]; omega
theorem E_ins (y : Nat) (xs ys : List Nat) : E xs (y :: ys) ≤ E xs ys + 2 := by
  cases xs with
  | nil => rw [E_nil, E_nil]; simp; omega
  | cons x xs => rw [E_cons]; omega

theorem E_comm : ∀ (n : Nat) (xs ys : List Nat), xs.length + ys.length ≤ n → E xs ys = E ys xs := by
  intro n
  induction n with
  | zero => intro xs ys h; cases xs <;> cases ys <;> simp_all
  | succ n ih =>
    intro xs ys h
    cases xs with
    | nil => rw [E_nil, E_nil_right]
    | cons x xs =>
      cases ys with
      | nil => rw [E_nil, E_nil_right]
      | cons y ys =>
        simp only [List.length_cons] at h
        rw [E_cons, E_cons, ih xs ys (by omega), ih xs (y :: ys) (by simp; omega), ih (x :: xs) ys (by simp; omega), rc_comm x y]
        omega
theorem E_symm (xs ys : List Nat) : E xs ys = E ys xs := E_comm _ xs ys (Nat.le_refl _)

theorem E_self (xs : List Nat) : E xs xs = 0 := by
  induction xs with
  | nil => rfl
  | cons x xs ih => have := E_sub x x xs xs; rw [ih, rc_self] at this; omega

theorem E_zero : ∀ (xs ys : List Nat), E xs ys = 0 → xs = ys := by
  intro xs
  induction xs with
  | nil => intro ys h; rw [E_nil] at h; cases ys <;> simp_all
  | cons x xs ih =>
    intro ys h
    cases ys with
    | nil => rw [E_nil_right] at h; simp at h
    | cons y ys =>
      rcases E_cons_cases x y xs ys with e | e | e
      · rw [e] at h
        rw [ih ys (by omega), rc_zero (by omega : rc x y = 0)]
      · omega
      · omega

theorem E_low : ∀ (n : Nat) (xs ys : List Nat), xs.length + ys.length ≤ n → 2 * xs.length ≤ E xs ys + 2 * ys.length := by
  intro n
  induction n with
  | zero => intro xs ys h; cases xs <;> cases ys <;> simp_all
  | succ n ih =>
    intro xs ys h
    cases xs with
    | nil => simp
    | cons x xs =>
      cases ys with
      | nil => rw [E_nil_right]; omega
      | cons y ys =>
        simp only [List.length_cons] at h
        have h1 := ih xs ys (by omega)
        have h2 := ih xs (y :: ys) (by simp; omega)
        have h3 := ih (x :: xs) ys (by simp; omega)
        simp only [List.length_cons] at h2 h3 ⊢
        rcases E_cons_cases x y xs ys with e | e | e <;> rw [e] <;> omega
theorem E_lower (xs ys : List Nat) : 2 * xs.length ≤ E xs ys + 2 * ys.length := E_low _ xs ys (Nat.le_refl _)
theorem E_lower' (xs ys : List Nat) : 2 * ys.length ≤ E xs ys + 2 * xs.length := by rw [E_symm]; exact E_lower ys xs

theorem E_upper : ∀ (xs ys : List Nat), E xs ys ≤ 2 * max xs.length ys.length := by
  intro xs
  induction xs with
  | nil => intro ys; rw [E_nil]; simp
  | cons x xs ih =>
    intro ys
    cases ys with
    | nil => rw [E_nil_right]; simp
    | cons y ys =>
      have h1 := E_sub x y xs ys
      have h2 := ih ys
      have h3 := rc_le x y
      simp only [List.length_cons]
      omega

theorem E_tri_n : ∀ (n : Nat) (xs ys zs : List Nat), xs.length + ys.length + zs.length ≤ n → E xs zs ≤ E xs ys + E ys zs := by
  intro n
  induction n with
  | zero => intro xs ys zs h; cases xs <;> cases ys <;> cases zs <;> simp_all [E]
  | succ n ih =>
    intro xs ys zs h
    cases xs with
    | nil =>
      rw [E_nil, E_nil]
      have := E_lower' ys zs
      omega
    | cons x xs =>
      cases zs with
      | nil =>
        rw [E_nil_right, E_nil_right]
        have := E_lower (x :: xs) ys
        omega
      | cons z zs =>
        cases ys with
        | nil =>
          have := E_upper (x :: xs) (z :: zs)
          rw [E_nil_right, E_nil]
          simp only [List.length_cons] at this ⊢
          omega
        | cons y ys =>
          simp only [List.length_cons] at h
          have hd := E_del x xs (z :: zs)
          have hi := E_ins z (x :: xs) zs
          have hs := E_sub x z xs zs
          rcases E_cons_cases x y xs ys with e1 | e1 | e1
          · rcases E_cons_cases y z ys zs with e2 | e2 | e2
            · have := ih xs ys zs (by omega)
              have := rc_tri x y z
              omega
            · have := ih xs ys (z :: zs) (by simp; omega)
              omega
            · have := ih (x :: xs) (y :: ys) zs (by simp; omega)
              omega
          · have := ih xs (y :: ys) (z :: zs) (by simp; omega)
            omega
          · rcases E_cons_cases y z ys zs with e2 | e2 | e2
            · have := ih (x :: xs) ys zs (by simp; omega)
              omega
            · have := ih (x :: xs) ys (z :: zs) (by simp; omega)
              omega
            · have := ih (x :: xs) (y :: ys) zs (by simp; omega)
              omega
theorem E_tri (xs ys zs : List Nat) : E xs zs ≤ E xs ys + E ys zs := E_tri_n _ xs ys zs (Nat.le_refl _)

/-! ### Parts -/

theorem E_append_right (a b d : List Nat) : E a (b ++ d) ≤ E a d + 2 * b.length := by
  induction b with
  | nil => simp
  | cons y b ih => have := E_ins y a (b ++ d); simp only [List.cons_append, List.length_cons]; omega

theorem E_append_n : ∀ (n : Nat) (a b c d : List Nat), a.length + b.length ≤ n → E (a ++ c) (b ++ d) ≤ E a b + E c d := by
  intro n
  induction n with
  | zero => intro a b c d h; cases a <;> cases b <;> simp_all [E]
  | succ n ih =>
    intro a b c d h
    cases a with
    | nil => have := E_append_right c b d; rw [E_nil]; simp only [List.nil_append]; omega
    | cons x a =>
      cases b with
      | nil =>
        have := E_append_right d (x :: a) c
        rw [E_symm d, E_symm d] at this
        rw [E_nil_right]; simp only [List.nil_append]; omega
      | cons y b =>
        simp only [List.length_cons] at h
        simp only [List.cons_append]
        rcases E_cons_cases x y a b with e | e | e
        · have h1 := ih a b c d (by omega)
          have h2 := E_sub x y (a ++ c) (b ++ d)
          omega
        · have h1 := ih a (y :: b) c d (by simp; omega)
          have h2 := E_del x (a ++ c) (y :: (b ++ d))
          simp only [List.cons_append] at h1
          omega
        · have h1 := ih (x :: a) b c d (by simp; omega)
          have h2 := E_ins y (x :: (a ++ c)) (b ++ d)
          simp only [List.cons_append] at h1
          omega
theorem E_append (a b c d : List Nat) : E (a ++ c) (b ++ d) ≤ E a b + E c d := E_append_n _ a b c d (Nat.le_refl _)

theorem E_drop_left (x : Nat) (xs ys : List Nat) : E xs ys ≤ E (x :: xs) ys + 2 := by
  have h := E_tri xs (x :: xs) ys
  have h2 := E_ins x xs xs
  rw [E_self] at h2
  omega
theorem E_drop_right (y : Nat) (xs ys : List Nat) : E xs ys ≤ E xs (y :: ys) + 2 := by
  rw [E_symm xs ys, E_symm xs (y :: ys)]; exact E_drop_left y ys xs

theorem E_head (x : Nat) (xs ys : List Nat) : E (x :: xs) (x :: ys) = E xs ys := by
  have h1 := E_sub x x xs ys
  rw [rc_self] at h1
  have h2 := E_drop_right x xs ys
  have h3 := E_drop_left x xs ys
  rcases E_cons_cases x x xs ys with e | e | e
  · rw [rc_self] at e; omega
  · omega
  · omega
theorem E_front (a b d : List Nat) : E (a ++ b) (a ++ d) = E b d := by
  induction a with
  | nil => rfl
  | cons x a ih => rw [List.cons_append, List.cons_append, E_head, ih]

/-! ### Read backward -/

theorem E_rev_le_n : ∀ (n : Nat) (xs ys : List Nat), xs.length + ys.length ≤ n → E xs.reverse ys.reverse ≤ E xs ys := by
  intro n
  induction n with
  | zero => intro xs ys h; cases xs <;> cases ys <;> simp_all
  | succ n ih =>
    intro xs ys h
    cases xs with
    | nil => simp [E_nil]
    | cons x xs =>
      cases ys with
      | nil => simp [E_nil_right]
      | cons y ys =>
        simp only [List.length_cons] at h
        rcases E_cons_cases x y xs ys with e | e | e
        · have h1 := ih xs ys (by omega)
          have h2 := E_append xs.reverse ys.reverse [x] [y]
          have h3 := E_sub x y [] []
          rw [E_nil] at h3
          simp only [List.reverse_cons]
          simp only [List.length_nil] at h3
          omega
        · have h1 := ih xs (y :: ys) (by simp; omega)
          have h2 := E_append xs.reverse (y :: ys).reverse [x] []
          rw [E_nil_right] at h2
          simp only [List.append_nil, List.length_cons, List.length_nil] at h2
          rw [List.reverse_cons (a := x)]
          omega
        · have h1 := ih (x :: xs) ys (by simp; omega)
          have h2 := E_append (x :: xs).reverse ys.reverse [] [y]
          rw [E_nil] at h2
          simp only [List.append_nil, List.length_cons, List.length_nil] at h2
          rw [List.reverse_cons (a := y)]
          omega
theorem E_rev (xs ys : List Nat) : E xs.reverse ys.reverse = E xs ys := by
  have h1 := E_rev_le_n _ xs ys (Nat.le_refl _)
  have h2 := E_rev_le_n _ xs.reverse ys.reverse (Nat.le_refl _)
  rw [List.reverse_reverse, List.reverse_reverse] at h2
  omega
theorem E_back (a b c : List Nat) : E (a ++ b) (c ++ b) = E a c := by
  rw [← E_rev, List.reverse_append, List.reverse_append, E_front, E_rev]

/-! ### Signs that are replaced one for one -/

def H : List Nat → List Nat → Nat
  | x :: xs, y :: ys => rc x y + H xs ys
  | _, _ => 0

theorem E_le_H : ∀ (xs ys : List Nat), xs.length = ys.length → E xs ys ≤ H xs ys := by
  intro xs
  induction xs with
  | nil => intro ys h; cases ys <;> simp_all [E, H]
  | cons x xs ih =>
    intro ys h
    cases ys with
    | nil => simp at h
    | cons y ys =>
      have h1 := ih ys (by simpa using h)
      have h2 := E_sub x y xs ys
      simp only [H]
      omega

theorem H_le_E : ∀ (xs ys : List Nat), xs.length = ys.length → min (H xs ys) 4 ≤ E xs ys := by
  intro xs
  induction xs with
  | nil => intro ys h; cases ys <;> simp_all [E, H]
  | cons x xs ih =>
    intro ys h
    cases ys with
    | nil => simp at h
    | cons y ys =>
      have hl : xs.length = ys.length := by simpa using h
      have h1 := ih ys hl
      have h2 := E_lower' xs (y :: ys)
      have h3 := E_lower (x :: xs) ys
      simp only [List.length_cons] at h2 h3
      simp only [H]
      rcases E_cons_cases x y xs ys with e | e | e <;> omega

/-- The sign with which a sign is confusable, or itself. -/
def tw (c : Nat) : Nat := if twin c ≠ 0 then twin c else c

theorem tw_tw (c : Nat) : tw (tw c) = c := by
  unfold tw
  by_cases h : twin c ≠ 0
  · rw [if_pos h, twin_twin h, if_pos]
    intro h0; subst h0; exact h (by decide)
  · rw [if_neg h, if_neg h]
theorem tw_inj {a b : Nat} (h : tw a = tw b) : a = b := by rw [← tw_tw a, h, tw_tw]

theorem rc_tw_one {c : Nat} (h : twin c ≠ 0) : rc c (twin c) = 1 := by
  unfold rc
  rw [if_neg (Ne.symm (twin_ne h)), if_pos ⟨rfl, h⟩]

theorem rc_tw (a b : Nat) : rc (tw a) (tw b) = rc a b := by
  have tz : twin 0 = 0 := by decide
  have key : ∀ x y : Nat, (twin x = y ∧ y ≠ 0) → (twin (tw x) = tw y ∧ tw y ≠ 0) := by
    rintro x y ⟨h1, h2⟩
    have hx : twin x ≠ 0 := by rw [h1]; exact h2
    have e1 : tw x = y := by unfold tw; rw [if_pos hx, h1]
    have hyx : twin y = x := by rw [← h1]; exact twin_twin hx
    have hx0 : x ≠ 0 := fun h0 => hx (by rw [h0]; exact tz)
    have hy : twin y ≠ 0 := by rw [hyx]; exact hx0
    have e2 : tw y = x := by unfold tw; rw [if_pos hy, hyx]
    rw [e1, e2]
    exact ⟨hyx, hx0⟩
  unfold rc
  by_cases e : a = b
  · subst e; simp
  · rw [if_neg e, if_neg (fun h => e (tw_inj h))]
    by_cases h : twin a = b ∧ b ≠ 0
    · rw [if_pos h, if_pos (key a b h)]
    · rw [if_neg h, if_neg]
      intro h'
      have := key _ _ h'
      rw [tw_tw, tw_tw] at this
      exact h this

theorem E_tw : ∀ (n : Nat) (xs ys : List Nat), xs.length + ys.length ≤ n → E (xs.map tw) (ys.map tw) = E xs ys := by
  intro n
  induction n with
  | zero => intro xs ys h; cases xs <;> cases ys <;> simp_all [E]
  | succ n ih =>
    intro xs ys h
    cases xs with
    | nil => simp [E_nil]
    | cons x xs =>
      cases ys with
      | nil => simp [E_nil_right]
      | cons y ys =>
        simp only [List.length_cons] at h
        have h1 := ih xs ys (by omega)
        have h2 := ih xs (y :: ys) (by simp; omega)
        have h3 := ih (x :: xs) ys (by simp; omega)
        simp only [List.map_cons] at h2 h3 ⊢
        rw [E_cons, E_cons, h1, h2, h3, rc_tw]
theorem E_twins (xs ys : List Nat) : E (xs.map tw) (ys.map tw) = E xs ys := E_tw _ xs ys (Nat.le_refl _)

/-! ### The tables -/

/-- The distance of the first i signs of a and the first j signs of b. -/
def G (a b : List Nat) (i j : Nat) : Nat := E (a.take i).reverse (b.take j).reverse

theorem G_zero (a b : List Nat) (j : Nat) (h : j ≤ b.length) : G a b 0 j = 2 * j := by
  simp [G, E_nil, Nat.min_eq_left h]
theorem G_first (a b : List Nat) (i : Nat) (h : i ≤ a.length) : G a b i 0 = 2 * i := by
  simp [G, E_nil_right, Nat.min_eq_left h]
theorem take_succ_rev (a : List Nat) (i : Nat) (h : i < a.length) : (a.take (i + 1)).reverse = a.getD i 0 :: (a.take i).reverse := by
  rw [List.take_succ_eq_append_getElem h]; simp [h]
theorem G_succ (a b : List Nat) (i j : Nat) (hi : i < a.length) (hj : j < b.length) :
    G a b (i + 1) (j + 1) = min (G a b i j + rc (a.getD i 0) (b.getD j 0)) (min (G a b i (j + 1) + 2) (G a b (i + 1) j + 2)) := by
  unfold G
  rw [take_succ_rev a i hi, take_succ_rev b j hj, E_cons]
theorem G_le (a b : List Nat) (i j : Nat) : G a b i j ≤ 2 * max i j := by
  have := E_upper (a.take i).reverse (b.take j).reverse
  simp only [List.length_reverse, List.length_take] at this
  unfold G
  omega
theorem G_whole (a b : List Nat) : G a b a.length b.length = E a b := by
  unfold G
  rw [List.take_length, List.take_length, E_rev]

/-- The distance of what follows the first i signs of a and the first j signs of b. -/
def S (a b : List Nat) (i j : Nat) : Nat := E (a.drop i) (b.drop j)

theorem S_last (a b : List Nat) (j : Nat) : S a b a.length j = 2 * (b.length - j) := by simp [S, E_nil]
theorem S_end (a b : List Nat) (i : Nat) : S a b i b.length = 2 * (a.length - i) := by simp [S, E_nil_right]
theorem S_step (a b : List Nat) (i j : Nat) (hi : i < a.length) (hj : j < b.length) :
    S a b i j = min (S a b (i + 1) (j + 1) + rc (a.getD i 0) (b.getD j 0)) (min (S a b (i + 1) j + 2) (S a b i (j + 1) + 2)) := by
  unfold S
  have e1 : a.drop i = a.getD i 0 :: a.drop (i + 1) := by rw [List.drop_eq_getElem_cons hi]; simp [hi]
  have e2 : b.drop j = b.getD j 0 :: b.drop (j + 1) := by rw [List.drop_eq_getElem_cons hj]; simp [hj]
  rw [e1, e2, E_cons]
theorem S_le (a b : List Nat) (i j : Nat) : S a b i j ≤ 2 * max (a.length - i) (b.length - j) := by
  have := E_upper (a.drop i) (b.drop j)
  simp only [List.length_drop] at this
  exact this
theorem S_whole (a b : List Nat) : S a b 0 0 = E a b := rfl

end Go.Proofs.YtmcodendnpjlaaaDoor
