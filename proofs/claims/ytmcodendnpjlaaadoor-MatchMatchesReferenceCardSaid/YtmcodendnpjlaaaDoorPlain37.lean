/- Chapter 37, plain: the pairs with the least contradiction. No program here. -/
import Derived.Below
namespace Go.Proofs.YtmcodendnpjlaaaDoor

abbrev Pr := Nat × Nat
/-- A list of pairs is less than another one. -/
def lessP : List Pr → List Pr → Bool
  | [], [] => false
  | [], _ :: _ => true
  | _ :: _, [] => false
  | a :: as', b :: bs => if a.1 = b.1 then (if a.2 = b.2 then lessP as' bs else decide (a.2 < b.2)) else decide (a.1 < b.1)
structure Fd where
  pairs : List Pr
  cost : Int
def Fd.less (f g : Fd) : Bool := if f.cost = g.cost then lessP f.pairs g.pairs else decide (f.cost < g.cost)

theorem lessP_irrefl : ∀ l, lessP l l = false
  | [] => rfl
  | a :: as' => by simp [lessP, lessP_irrefl as']
theorem nlessP_trans : ∀ {a b c : List Pr}, lessP a b = false → lessP b c = false → lessP a c = false
  | [], [], _, _, h => h
  | [], _ :: _, _, h, _ => by simp [lessP] at h
  | _ :: _, _, [], _, _ => rfl
  | _ :: _, [], _ :: _, _, h => by simp [lessP] at h
  | (a1, a2) :: as', (b1, b2) :: bs, (c1, c2) :: cs, h1, h2 => by
    simp only [lessP] at h1 h2 ⊢
    split at h1
    · split at h1
      · split at h2
        · split at h2
          · rw [if_pos (by omega), if_pos (by omega)]
            exact nlessP_trans h1 h2
          · rw [if_pos (by omega), if_neg (by omega)]
            simp at h2 ⊢; omega
        · rw [if_neg (by omega)]
          simp at h2 ⊢; omega
      · split at h2
        · split at h2
          · rw [if_pos (by omega), if_neg (by omega)]
            simp at h1 ⊢; omega
          · rw [if_pos (by omega), if_neg (by simp at h1 h2; omega)]
            simp at h1 h2 ⊢; omega
        · rw [if_neg (by omega)]
          simp at h2 ⊢; omega
    · split at h2
      · rw [if_neg (by omega)]
        simp at h1 ⊢; omega
      · rw [if_neg (by simp at h1 h2; omega)]
        simp at h1 h2 ⊢; omega
theorem nlessP_anti : ∀ {a b : List Pr}, lessP a b = false → lessP b a = false → a = b
  | [], [], _, _ => rfl
  | [], _ :: _, h, _ => by simp [lessP] at h
  | _ :: _, [], _, h => by simp [lessP] at h
  | (a1, a2) :: as', (b1, b2) :: bs, h1, h2 => by
    simp only [lessP] at h1 h2
    split at h1
    · split at h1
      · rename_i e1 e2
        rw [if_pos e1.symm, if_pos e2.symm] at h2
        rw [nlessP_anti h1 h2]
        cases e1; cases e2; rfl
      · rename_i e1 e2
        rw [if_pos e1.symm, if_neg (fun e => e2 e.symm)] at h2
        simp at h1 h2; omega
    · rename_i e1
      rw [if_neg (fun e => e1 e.symm)] at h2
      simp at h1 h2; omega
theorem nless_trans {a b c : Fd} (h1 : a.less b = false) (h2 : b.less c = false) : a.less c = false := by
  unfold Fd.less at h1 h2 ⊢
  split at h1
  · split at h2
    · rw [if_pos (by omega)]
      exact nlessP_trans h1 h2
    · rw [if_neg (by omega)]
      simp at h2 ⊢; omega
  · split at h2
    · rw [if_neg (by omega)]
      simp at h1 ⊢; omega
    · rw [if_neg (by simp at h1 h2; omega)]
      simp at h1 h2 ⊢; omega
theorem less_irrefl (a : Fd) : a.less a = false := by simp [Fd.less, lessP_irrefl]
theorem less_asymm {a b : Fd} (h : a.less b = true) : b.less a = false := by
  cases hb : b.less a with
  | false => rfl
  | true =>
    exfalso
    unfold Fd.less at h hb
    split at h
    · rename_i e
      rw [if_pos e.symm] at hb
      have : ∀ {x y : List Pr}, lessP x y = true → lessP y x = true → False := by
        intro x
        induction x with
        | nil => intro y h1 h2; cases y <;> simp [lessP] at h1 h2
        | cons p ps ih =>
          intro y h1 h2
          cases y with
          | nil => simp [lessP] at h1
          | cons q qs =>
            simp only [lessP] at h1 h2
            split at h1
            · rename_i e1
              rw [if_pos e1.symm] at h2
              split at h1
              · rename_i e2
                rw [if_pos e2.symm] at h2
                exact ih h1 h2
              · rename_i e2
                rw [if_neg (fun e => e2 e.symm)] at h2
                simp at h1 h2; omega
            · rename_i e1
              rw [if_neg (fun e => e1 e.symm)] at h2
              simp at h1 h2; omega
      exact this h hb
    · rename_i e
      rw [if_neg (fun e' => e e'.symm)] at hb
      simp at h hb; omega

section
variable (ok : Nat → Nat → Bool) (d : Nat → Nat → Int) (n m : Nat)
/-- How many exits are not used. -/
def leftE (used : Nat) : Nat := ((List.range m).filter (fun j => !used.testBit j)).length
/-- One round of the loop over the exits. -/
def pick (e used : Nat) (rec : Nat → Fd) (best : Fd) (j : Nat) : Fd :=
  if used.testBit j || !ok e j then best
  else if Fd.less ⟨(e, j) :: (rec (used ||| 1 <<< j)).pairs, (rec (used ||| 1 <<< j)).cost + d e j⟩ best then ⟨(e, j) :: (rec (used ||| 1 <<< j)).pairs, (rec (used ||| 1 <<< j)).cost + d e j⟩ else best
/-- The best pairs of the last k entries, with some exits used. -/
def lst : Nat → Nat → Fd
  | 0, used => ⟨[], 5 * (leftE m used : Nat)⟩
  | k + 1, used => (List.range m).foldl (pick ok d (n - (k + 1)) used (lst k)) ⟨(lst k used).pairs, (lst k used).cost + 5⟩
/-- Pairs of entries from i on with exits that are not used. -/
def VP : Nat → Nat → List Pr → Prop
  | _, _, [] => True
  | i, used, p :: l => i ≤ p.1 ∧ p.1 < n ∧ p.2 < m ∧ used.testBit p.2 = false ∧ ok p.1 p.2 = true ∧ VP (p.1 + 1) (used ||| 1 <<< p.2) l
def sumD (l : List Pr) : Int := (l.map (fun p => d p.1 p.2)).sum
def costP (i used : Nat) (l : List Pr) : Int := 5 * ((n - i : Nat) : Int) + 5 * (leftE m used : Nat) - 10 * (l.length : Nat) + sumD d l
end
end Go.Proofs.YtmcodendnpjlaaaDoor
