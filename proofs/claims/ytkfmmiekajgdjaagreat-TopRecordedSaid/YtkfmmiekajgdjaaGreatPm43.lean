/- Plain facts: what the auditor says of a chain; the chain, the slices and the end of what is metered minute by minute. -/
import Derived.Test.YtkfmmiekajgdjaaGreatVf43
namespace Go.Proofs.YtkfmmiekajgdjaaGreat
open Go.RowKit

/-! ### The two readings of a chain -/
theorem follows_old (b x : Rd) : followsA b x = (!oldR b x && !laterR b x) := by
  unfold followsA oldR laterR
  by_cases hs : x.s = b.s
  · rw [if_pos hs, Bool.eq_iff_iff]
    simp [hs]
  · rw [if_neg hs, Bool.eq_iff_iff]
    simp [hs]
    omega
theorem okN_three (p : Option Rd) (i : Nat) (x : Rd) : okN p i x = (validR x && decide (x.n = (i : Int) + 1) && ok3 p x) := by
  cases p with
  | none => rfl
  | some b =>
    show (validR x && decide (x.n = (i : Int) + 1) && (!oldR b x && !laterR b x)) = _
    rw [← follows_old]
    rfl
theorem okN_ok {p : Option Rd} {i : Nat} {x : Rd} (hi : i < 64) : okN p i x = (ok1 i x && (ok2 x && ok3 p x)) := by
  rw [okN_three]
  obtain ⟨b3, h3⟩ : ∃ b, ok3 p x = b := ⟨_, rfl⟩
  rw [h3]
  unfold validR ok1 ok2
  rw [Bool.eq_iff_iff]
  simp
  constructor
  · rintro ⟨⟨h1, h2⟩, h3⟩
    exact ⟨⟨⟨by omega, by omega⟩, h2⟩, ⟨⟨by omega, by omega⟩, by omega, by omega⟩, h3⟩
  · rintro ⟨⟨⟨h1, h2⟩, h3⟩, ⟨⟨h4, h5⟩, h6, h7⟩, h8⟩
    exact ⟨⟨by omega, h3⟩, h8⟩
theorem prevAt_succ {l : List Rd} {k : Nat} (h : k < l.length) : prevAt l (k + 1) = some (getR l k) := by
  unfold prevAt
  rw [if_neg (by omega), Nat.add_sub_cancel, getR_some h]
theorem chA_iff (seed : Nat) (l : List Rd) (hl : l.length ≤ 64) : ∀ (n k : Nat), k + n = l.length → (chA (stAt seed l k) k (prevAt l k) (l.drop k) = true ↔ ∀ i, k ≤ i → i < l.length → rightAt seed l i = true)
  | 0, k, h => by
    rw [List.drop_eq_nil_of_le (by omega)]
    exact ⟨fun _ i h1 h2 => by omega, fun _ => rfl⟩
  | n + 1, k, h => by
    have hk : k < l.length := by omega
    have ih := chA_iff seed l hl n (k + 1) (by omega)
    rw [stAt_succ seed hk, prevAt_succ hk] at ih
    rw [dropRA hk, chA_cons]
    have hr : rightAt seed l k = (ok1 k (getR l k) && (ok2 (getR l k) && (ok3 (prevAt l k) (getR l k) && ((getR l k).k == link (stAt seed l k) (getR l k))))) := by
      rw [rightAt_get hk, okAt_get hk, okN_ok (by omega)]
      cases ok1 k (getR l k) <;> cases ok2 (getR l k) <;> cases ok3 (prevAt l k) (getR l k) <;> rfl
    constructor
    · intro h2 i hi1 hi2
      simp only [Bool.and_eq_true] at h2
      by_cases e : i = k
      · subst e
        rw [hr]
        simp only [Bool.and_eq_true]
        exact ⟨h2.1, h2.2.1, h2.2.2.1, h2.2.2.2.1⟩
      · exact ih.1 h2.2.2.2.2 i (by omega) hi2
    · intro h2
      have h3 := h2 k (Nat.le_refl _) hk
      rw [hr] at h3
      simp only [Bool.and_eq_true] at h3 ⊢
      exact ⟨h3.1, h3.2.1, h3.2.2.1, h3.2.2.2, ih.2 fun i hi1 hi2 => h2 i (by omega) hi2⟩
/-- The auditor and package chain agree on which chains are right. -/
theorem chained_iff (seed : Nat) (l : List Rd) : chainedA seed l = true ↔ (1 ≤ l.length ∧ l.length ≤ 64 ∧ chk seed l = -1) := by
  unfold chainedA lenA
  simp only [Bool.and_eq_true, decide_eq_true_eq]
  constructor
  · rintro ⟨⟨h1, h2⟩, h3⟩
    have hl : l.length ≤ 64 := by omega
    refine ⟨by omega, hl, ?_⟩
    have := (chA_iff seed l hl l.length 0 (by omega)).1 h3
    exact (isChk_eq (.inl ⟨rfl, fun i hi => this i (Nat.zero_le _) hi⟩)).symm
  · rintro ⟨h1, h2, h3⟩
    exact ⟨⟨by omega, by omega⟩, (chA_iff seed l h2 l.length 0 (by omega)).2 fun i _ hi => right_of_chk h3 hi⟩
theorem chk_neg {seed : Nat} {l : List Rd} (h : ¬ 0 ≤ chk seed l) : chk seed l = -1 := by
  rcases chk_is seed l with ⟨e, _⟩ | ⟨k, _, e, _⟩
  · exact e
  · omega
theorem chk_append {seed : Nat} {l : List Rd} {s m r : Int} {hs : seed < 18446744073709551616} (h : apErr seed l s m r = 0) : chk seed (l ++ [apRd seed l s m r hs]) = -1 ∧ chk seed l = -1 := by
  unfold apErr at h
  split at h
  · cases h
  rename_i hc
  split at h
  · cases h
  rename_i h64
  split at h
  · cases h
  rename_i hv
  have hlen := chk_len hc
  have e1 := chk_neg hc
  have hn : IntKind.i64.wrap ((l.length : Int) + 1) = (l.length : Int) + 1 := IntWalk.i64_in _ (by omega)
  refine ⟨(isChk_eq (.inl ⟨rfl, fun i hi => ?_⟩)).symm, e1⟩
  rw [List.length_append, List.length_singleton] at hi
  rcases Nat.lt_or_eq_of_le (Nat.le_of_lt_succ hi) with hlt | rfl
  · have := rightAt_take (seed := seed) (l := l ++ [apRd seed l s m r hs]) (n := l.length) (i := i) hlt
    rw [List.take_left] at this
    rw [← this]
    exact right_of_chk e1 hlt
  · have hx : (l ++ [apRd seed l s m r hs])[l.length]? = some (apRd seed l s m r hs) := by simp
    have hp : prevAt (l ++ [apRd seed l s m r hs]) l.length = prevAt l l.length := by
      unfold prevAt
      split
      · rfl
      · rw [List.getElem?_append_left (by omega)]
    have hst : stAt seed (l ++ [apRd seed l s m r hs]) l.length = stAt seed l l.length := by unfold stAt; rw [hp]
    have hv' : validR (apRd seed l s m r hs) = true := by
      have : validR (newRd l s m r) = true := by simpa using hv
      rw [validR_iff] at this ⊢
      simp only [newRd, hn] at this
      exact this
    have hlk : link (stAt seed l l.length) (apRd seed l s m r hs) = link (stAt seed l l.length) (newRd l s m r) := by
      rw [link_folds, link_folds]
      simp only [newRd, apRd, hn]
    simp only [rightAt, okAt, hx, hst, hp, okN, hv', hlk, Bool.true_and, Bool.and_eq_true, decide_eq_true_eq]
    refine ⟨⟨rfl, ?_⟩, rfl⟩
    split
    · rfl
    · rename_i b hb
      rw [hb] at h
      dsimp only at h
      have ho : oldR b (apRd seed l s m r hs) = oldR b (newRd l s m r) := rfl
      have hl : laterR b (apRd seed l s m r hs) = laterR b (newRd l s m r) := rfl
      rw [ho, hl]
      split at h
      · cases h
      · split at h
        · cases h
        · simp_all

/-! ### What a meter counts -/
/-- The watt-seconds of a tick. -/
def wOf (x : Nat × Nat) : Int := 2300 * ((x.1 : Int) % 81) * ((x.2 : Int) % 4)
theorem wOf_bound (x : Nat × Nat) : 0 ≤ wOf x ∧ wOf x ≤ 552000 := by
  unfold wOf
  have h1 : 0 ≤ (x.1 : Int) % 81 ∧ (x.1 : Int) % 81 ≤ 80 := by omega
  have h2 : 0 ≤ (x.2 : Int) % 4 ∧ (x.2 : Int) % 4 ≤ 3 := by omega
  have := nn_mul (a := 2300 * ((x.1 : Int) % 81)) (b := (x.2 : Int) % 4) (A := 184000) (B := 3) (by omega) h2.1 (by omega) h2.2
  omega
def regW (ms : List (Nat × Nat)) : Nat → Int
  | 0 => 0
  | k + 1 => regW ms k + 6 * wOf (ms.getD k (0, 0))
theorem regW_bound (ms : List (Nat × Nat)) : ∀ k, 0 ≤ regW ms k ∧ regW ms k ≤ 3312000 * k
  | 0 => ⟨Int.le_refl _, Int.le_refl _⟩
  | k + 1 => by
    have ih := regW_bound ms k
    have h := wOf_bound (ms.getD k (0, 0))
    unfold regW
    push_cast
    omega
def whN (ms : List (Nat × Nat)) (k : Nat) : Int := regW ms k / 3600
theorem whN_bound (ms : List (Nat × Nat)) (k : Nat) : 0 ≤ whN ms k ∧ whN ms k ≤ 920 * k := by
  have := regW_bound ms k
  unfold whN
  omega
theorem whN_step (ms : List (Nat × Nat)) (k : Nat) : whN ms k ≤ whN ms (k + 1) ∧ whN ms (k + 1) ≤ whN ms k + 921 := by
  have h := wOf_bound (ms.getD k (0, 0))
  unfold whN
  show regW ms k / 3600 ≤ (regW ms k + 6 * wOf (ms.getD k (0, 0))) / 3600 ∧ (regW ms k + 6 * wOf (ms.getD k (0, 0))) / 3600 ≤ regW ms k / 3600 + 921
  omega
def metS (ms : List (Nat × Nat)) (f : Int) : Nat → List (Int × Int)
  | 0 => []
  | k + 1 => if whN ms (k + 1) = whN ms k then metS ms f k else metS ms f k ++ [(f + k, whN ms (k + 1) - whN ms k)]
def metE (ms : List (Nat × Nat)) (f : Int) : Nat → Int
  | 0 => f
  | k + 1 => if whN ms (k + 1) = whN ms k then metE ms f k else f + k + 1
theorem metE_bound (ms : List (Nat × Nat)) (f : Int) : ∀ k, f ≤ metE ms f k ∧ metE ms f k ≤ f + k
  | 0 => by simp [metE]
  | k + 1 => by
    have ih := metE_bound ms f k
    unfold metE
    split
    · push_cast; omega
    · push_cast; omega
theorem metS_len (ms : List (Nat × Nat)) (f : Int) : ∀ k, (metS ms f k).length ≤ k
  | 0 => Nat.le_refl _
  | k + 1 => by
    have ih := metS_len ms f k
    unfold metS
    split
    · omega
    · simp; exact ih
theorem metS_min (ms : List (Nat × Nat)) (f : Int) : ∀ k, ∀ x ∈ metS ms f k, x.1 < f + k
  | 0, x, hx => by cases hx
  | k + 1, x, hx => by
    have ih := metS_min ms f k
    unfold metS at hx
    split at hx
    · have := ih x hx; push_cast; omega
    · rcases List.mem_append.1 hx with h | h
      · have := ih x h; push_cast; omega
      · obtain rfl := List.mem_singleton.1 h
        show f + (k : Int) < f + ((k + 1 : Nat) : Int)
        push_cast
        omega
theorem metS_sum (ms : List (Nat × Nat)) (f : Int) : ∀ k, sumL (metS ms f k) = whN ms k
  | 0 => by simp [metS, sumL, whN, regW]
  | k + 1 => by
    have ih := metS_sum ms f k
    unfold metS
    split
    · next h => rw [ih, h]
    · unfold sumL at ih ⊢
      rw [List.foldl_append, ih]
      simp
      omega
/-- The readings. -/
def metL (seed : Nat) (hs : seed < 18446744073709551616) (ms : List (Nat × Nat)) (f : Int) : Nat → List Rd
  | 0 => [apRd seed [] 1 f 0 hs]
  | k + 1 => metL seed hs ms f k ++ [apRd seed (metL seed hs ms f k) 1 (f + ((k + 1 : Nat) : Int)) (whN ms (k + 1)) hs]
theorem metL_len (seed : Nat) (hs : seed < 18446744073709551616) (ms : List (Nat × Nat)) (f : Int) : ∀ k, (metL seed hs ms f k).length = k + 1
  | 0 => rfl
  | k + 1 => by unfold metL; rw [List.length_append, metL_len seed hs ms f k]; rfl
theorem metL_get (seed : Nat) (hs : seed < 18446744073709551616) (ms : List (Nat × Nat)) (f : Int) : ∀ k i, i ≤ k → (getR (metL seed hs ms f k) i).s = 1 ∧ (getR (metL seed hs ms f k) i).m = f + i ∧ (getR (metL seed hs ms f k) i).r = whN ms i
  | 0, i, hi => by
    obtain rfl : i = 0 := by omega
    exact ⟨rfl, by show f = f + ((0 : Nat) : Int); omega, rfl⟩
  | k + 1, i, hi => by
    have hl := metL_len seed hs ms f k
    unfold metL
    by_cases h : i ≤ k
    · have e : getR (metL seed hs ms f k ++ [apRd seed (metL seed hs ms f k) 1 (f + ((k + 1 : Nat) : Int)) (whN ms (k + 1)) hs]) i = getR (metL seed hs ms f k) i := by
        unfold getR
        rw [List.getD_eq_getElem?_getD, List.getD_eq_getElem?_getD, List.getElem?_append_left (by omega)]
      rw [e]
      exact metL_get seed hs ms f k i h
    · obtain rfl : i = k + 1 := by omega
      have e : getR (metL seed hs ms f k ++ [apRd seed (metL seed hs ms f k) 1 (f + ((k + 1 : Nat) : Int)) (whN ms (k + 1)) hs]) (k + 1) = apRd seed (metL seed hs ms f k) 1 (f + ((k + 1 : Nat) : Int)) (whN ms (k + 1)) hs := by
        unfold getR
        rw [List.getD_eq_getElem?_getD, List.getElem?_append_right (by omega), hl]
        simp
      rw [e]
      exact ⟨rfl, rfl, rfl⟩
theorem first_err {seed : Nat} {f : Int} : apErr seed [] 1 f 0 = if 0 ≤ f ∧ f ≤ 52560000 then 0 else 1 := by
  unfold apErr
  have h0 : ¬ 0 ≤ chk seed [] := by
    rw [show chk seed [] = -1 from rfl]; decide
  rw [if_neg h0, if_neg (by decide)]
  by_cases h : 0 ≤ f ∧ f ≤ 52560000
  · rw [if_pos h, if_neg]
    · rfl
    · rw [Bool.not_eq_false, validR_iff]
      exact ⟨by show (1 : Int) ≤ 1 ∧ (1 : Int) ≤ 1000000; omega, ⟨by show (1 : Int) ≤ IntKind.i64.wrap (0 + 1); rw [IntWalk.i64_in _ (by omega)]; omega, by show IntKind.i64.wrap (0 + 1) ≤ 64; rw [IntWalk.i64_in _ (by omega)]; omega⟩, h, by show (0 : Int) ≤ 0 ∧ (0 : Int) ≤ 1000000000; omega⟩
  · rw [if_neg h, if_pos]
    rw [← Bool.not_eq_true, validR_iff]
    rintro ⟨_, _, h3, _⟩
    exact h h3
theorem met_chain (seed : Nat) (hs : seed < 18446744073709551616) (ms : List (Nat × Nat)) (f : Int) (f0 : 0 ≤ f) : ∀ k : Nat, k ≤ 40 → f + k ≤ 52560000 → chk seed (metL seed hs ms f k) = -1
  | 0, _, h => (chk_append (l := []) (hs := hs) (by rw [first_err, if_pos ⟨f0, by omega⟩])).1
  | k + 1, hk, h => by
    have ih := met_chain seed hs ms f f0 k (by omega) (by push_cast at h; omega)
    have hl := metL_len seed hs ms f k
    have hw := whN_bound ms (k + 1)
    refine (chk_append (hs := hs) ?_).1
    unfold apErr
    rw [ih, if_neg (by decide), hl, if_neg (by omega), if_neg, prevAt_succ (by omega)]
    · obtain ⟨g1, g2, g3⟩ := metL_get seed hs ms f k k (Nat.le_refl _)
      have hst := (whN_step ms k).1
      show (if oldR _ _ = true then (12 : Int) else if laterR _ _ = true then 6 else 0) = 0
      rw [if_neg, if_neg]
      · simp [laterR, newRd, g1]
      · simp only [oldR, newRd, g1, g2, g3, decide_eq_true_eq]
        push_cast
        omega
    · rw [Bool.not_eq_false, validR_iff]
      have hn : IntKind.i64.wrap (((metL seed hs ms f k).length : Int) + 1) = (k : Int) + 2 := by rw [hl, IntWalk.i64_in _ (by omega)]; push_cast; omega
      exact ⟨by show (1 : Int) ≤ 1 ∧ (1 : Int) ≤ 1000000; omega, by simp only [newRd, hn]; omega, ⟨by show 0 ≤ f + ((k + 1 : Nat) : Int); omega, h⟩, ⟨hw.1, by show whN ms (k + 1) ≤ 1000000000; omega⟩⟩
theorem met_next (seed : Nat) (hs : seed < 18446744073709551616) (ms : List (Nat × Nat)) (f : Int) (f0 : 0 ≤ f) (k : Nat) (hk : k < 40) (h : f + k ≤ 52560000) : (apErr seed (metL seed hs ms f k) 1 (f + ((k + 1 : Nat) : Int)) (whN ms (k + 1)) = 0 ↔ f + ((k + 1 : Nat) : Int) ≤ 52560000) := by
  have hl := metL_len seed hs ms f k
  have hc := met_chain seed hs ms f f0 k (by omega) h
  have hw := whN_bound ms (k + 1)
  unfold apErr
  rw [hc, if_neg (by decide), hl, if_neg (by omega)]
  have hn : IntKind.i64.wrap (((metL seed hs ms f k).length : Int) + 1) = (k : Int) + 2 := by rw [hl, IntWalk.i64_in _ (by omega)]; push_cast; omega
  by_cases hm : f + ((k + 1 : Nat) : Int) ≤ 52560000
  · rw [if_neg, prevAt_succ (by omega)]
    · obtain ⟨g1, g2, g3⟩ := metL_get seed hs ms f k k (Nat.le_refl _)
      have hst := (whN_step ms k).1
      show (if oldR _ _ = true then (12 : Int) else if laterR _ _ = true then 6 else 0) = 0 ↔ _
      rw [if_neg, if_neg]
      · exact ⟨fun _ => hm, fun _ => rfl⟩
      · simp [laterR, newRd, g1]
      · simp only [oldR, newRd, g1, g2, g3, decide_eq_true_eq]
        push_cast
        omega
    · rw [Bool.not_eq_false, validR_iff]
      exact ⟨by show (1 : Int) ≤ 1 ∧ (1 : Int) ≤ 1000000; omega, by simp only [newRd, hn]; omega, ⟨by show 0 ≤ f + ((k + 1 : Nat) : Int); omega, hm⟩, ⟨hw.1, by show whN ms (k + 1) ≤ 1000000000; omega⟩⟩
  · rw [if_pos]
    · exact ⟨fun h => (by cases h), fun h => absurd h hm⟩
    · rw [← Bool.not_eq_true, validR_iff]
      rintro ⟨_, _, h3, _⟩
      exact hm h3.2
end Go.Proofs.YtkfmmiekajgdjaaGreat
