/- Chapter 40 in plain Lean: beginnings of chains, one byte that is changed. No statement about the program. -/
import Derived.Test.YtddbobphmakmmaaPlainB40
namespace Go.Proofs.Ytddbobphmakmmaa

/-! ### Beginnings -/
theorem rightAt_take {seed : Nat} {l : List Rd} {n i : Nat} (hi : i < n) : rightAt seed (l.take n) i = rightAt seed l i := by
  have h1 : ∀ j, j ≤ i → (l.take n)[j]? = l[j]? := fun j hj => by rw [List.getElem?_take_of_lt (by omega)]
  have hp : prevAt (l.take n) i = prevAt l i := by
    unfold prevAt
    split
    · rfl
    · exact h1 (i - 1) (by omega)
  unfold rightAt okAt stAt
  rw [hp, h1 i (Nat.le_refl _)]

theorem chk_take_in {seed : Nat} {l : List Rd} {n : Nat} (hn : n ≤ l.length) (h0 : 0 ≤ chk seed l) (h1 : chk seed l < (n : Int)) : chk seed (l.take n) = chk seed l := by
  rcases chk_is seed l with ⟨e, _⟩ | ⟨k, hk, e, hf, hall⟩
  · omega
  · rw [e]
    refine (isChk_eq (.inr ⟨k, by rw [List.length_take]; omega, rfl, ?_, fun i hi => ?_⟩)).symm
    · rw [rightAt_take (by omega)]; exact hf
    · rw [rightAt_take (by omega)]; exact hall i hi

theorem chk_take_out {seed : Nat} {l : List Rd} {n : Nat} (hn : n ≤ l.length) (h : chk seed l < 0 ∨ (n : Int) ≤ chk seed l) : chk seed (l.take n) = -1 := by
  refine (isChk_eq (.inl ⟨rfl, fun i hi => ?_⟩)).symm
  rw [List.length_take] at hi
  rw [rightAt_take (by omega)]
  rcases chk_is seed l with ⟨e, hall⟩ | ⟨k, hk, e, hf, hall⟩
  · exact hall i (by omega)
  · exact hall i (by omega)

/-! ### One byte -/
theorem byteAt_xor {n n' : Int} {k y : Nat} (hk : k < 8) (hb : y < 256) (h : u64 n' = u64 n ^^^ (y * 2 ^ (8 * k))) {j : Nat} (hj : j < 8) :
    byteAt n' j = if j = 7 - k then byteAt n j ^^^ y else byteAt n j := by
  unfold byteAt
  rw [h, ← Nat.shiftLeft_eq, show 256 = 2 ^ 8 from rfl]
  have hb' : y < 2 ^ 8 := hb
  have hy : ∀ m, 8 ≤ m → y.testBit m = false := fun m hm => Nat.testBit_lt_two_pow (Nat.lt_of_lt_of_le hb' (Nat.pow_le_pow_right (by decide) hm))
  split
  · rename_i e
    apply Nat.eq_of_testBit_eq
    intro i
    simp only [Nat.testBit_mod_two_pow, Nat.testBit_shiftRight, Nat.testBit_xor, Nat.testBit_shiftLeft]
    have e1 : 56 - 8 * j = 8 * k := by omega
    rw [e1]
    rcases Nat.lt_or_ge i 8 with hi | hi
    · simp [hi]
    · simp [Nat.not_lt.2 hi, hy i hi]
  · rename_i e
    apply Nat.eq_of_testBit_eq
    intro i
    simp only [Nat.testBit_mod_two_pow, Nat.testBit_shiftRight, Nat.testBit_xor, Nat.testBit_shiftLeft]
    rcases Nat.lt_or_ge i 8 with hi | hi
    · have : (decide (56 - 8 * j + i ≥ 8 * k) && y.testBit (56 - 8 * j + i - 8 * k)) = false := by
        rcases Nat.lt_or_ge (56 - 8 * j + i) (8 * k) with h1 | h1
        · simp [Nat.not_le.2 h1]
        · rw [hy _ (by omega), Bool.and_false]
      rw [this, Bool.xor_false]
    · simp [Nat.not_lt.2 hi]

theorem bytes8_xor {n n' : Int} {k y : Nat} (hk : k < 8) (hb : y < 256) (h : u64 n' = u64 n ^^^ (y * 2 ^ (8 * k))) : bytes8 n' = (bytes8 n).set (7 - k) (byteAt n (7 - k) ^^^ y) := by
  apply List.ext_getElem
  · simp [bytes8]
  · intro j h1 h2
    have hj : j < 8 := by simpa [bytes8] using h1
    rw [List.getElem_set]
    simp only [bytes8, List.getElem_map, List.getElem_range]
    rw [byteAt_xor hk hb h hj]
    by_cases e : j = 7 - k
    · subst e; simp
    · rw [if_neg e, if_neg (fun e' => e e'.symm)]

theorem xor_self_ne {b y : Nat} (h : y ≠ 0) : b ^^^ y ≠ b := fun e => h (by
  have : b ^^^ (b ^^^ y) = b ^^^ b := by rw [e]
  rwa [← Nat.xor_assoc, Nat.xor_self, Nat.zero_xor] at this)

theorem fold_set {L : List Nat} {p c b : Nat} (hL : ∀ b ∈ L, b < 256) (hp : L[p]? = some b) (hc : c < 256) (hne : c ≠ b) {x : Nat} (hx : x < 18446744073709551616) : (L.set p c).foldl stepL x ≠ L.foldl stepL x := by
  obtain ⟨hlt, rfl⟩ := List.getElem?_eq_some_iff.1 hp
  have e1 : L = L.take p ++ L[p] :: L.drop (p + 1) := by rw [← List.drop_eq_getElem_cons hlt, List.take_append_drop]
  have e2 : L.set p c = L.take p ++ c :: L.drop (p + 1) := by rw [List.set_eq_take_append_cons_drop, if_pos hlt]
  intro h
  refine fold_one (l := L.take p) (l' := L.drop (p + 1)) (fun b hb => hL b (List.mem_of_mem_drop hb)) hc (hL _ (List.getElem_mem hlt)) hne hx ?_
  rw [← e2, ← e1]
  exact h

theorem bytes8_lt {n : Int} {b : Nat} (h : b ∈ bytes8 n) : b < 256 := by
  simp only [bytes8, List.mem_map] at h
  obtain ⟨j, _, rfl⟩ := h
  exact byteAt_lt _ _

/-- One byte of a number is changed: what follows of it is another state. -/
theorem num_ne {n n' : Int} {k y s : Nat} (hk : k < 8) (hb : y < 256) (hy : y ≠ 0) (h : u64 n' = u64 n ^^^ (y * 2 ^ (8 * k))) (hs : s < 18446744073709551616) : (bytes8 n').foldl stepL s ≠ (bytes8 n).foldl stepL s := by
  rw [bytes8_xor hk hb h]
  exact fold_set (b := byteAt n (7 - k)) (fun _ => bytes8_lt) (by rw [bytes8, List.getElem?_map, List.getElem?_range (by omega)]; rfl) (Nat.xor_lt_two_pow (n := 8) (byteAt_lt _ _) hb) (xor_self_ne hy) hs
theorem num_eq {n n' : Int} (h : u64 n' = u64 n) (s : Nat) : (bytes8 n').foldl stepL s = (bytes8 n).foldl stepL s := by
  have : bytes8 n' = bytes8 n := by
    unfold bytes8
    exact List.map_congr_left (fun j _ => by unfold byteAt; rw [h])
  rw [this]
theorem num_inj {n : Int} {s t : Nat} (hs : s < 18446744073709551616) (ht : t < 18446744073709551616) (h : (bytes8 n).foldl stepL s = (bytes8 n).foldl stepL t) : s = t := fold_inj (fun _ => bytes8_lt) hs ht h

theorem link_folds (x : Nat) (y : Rd) : link x y = (bytes8 y.r).foldl stepL ((bytes8 y.m).foldl stepL ((bytes8 y.n).foldl stepL ((bytes8 y.s).foldl stepL x))) := by
  unfold link bytesR
  rw [List.foldl_append, List.foldl_append, List.foldl_append]

/-- x' is x with one of its numbers changed in one byte, all else but the link alike. -/
def NumOff (x x' : Rd) (k y : Nat) : Prop :=
  (u64 x'.s = u64 x.s ^^^ (y * 2 ^ (8 * k)) ∧ x'.n = x.n ∧ x'.m = x.m ∧ x'.r = x.r) ∨ (x'.s = x.s ∧ u64 x'.n = u64 x.n ^^^ (y * 2 ^ (8 * k)) ∧ x'.m = x.m ∧ x'.r = x.r) ∨
  (x'.s = x.s ∧ x'.n = x.n ∧ u64 x'.m = u64 x.m ^^^ (y * 2 ^ (8 * k)) ∧ x'.r = x.r) ∨ (x'.s = x.s ∧ x'.n = x.n ∧ x'.m = x.m ∧ u64 x'.r = u64 x.r ^^^ (y * 2 ^ (8 * k)))

theorem link_off {x x' : Rd} {k y s : Nat} (hk : k < 8) (hb : y < 256) (h : NumOff x x' k y) (hs : s < 18446744073709551616) : link s x' = link s x ↔ y = 0 := by
  by_cases hy : y = 0
  · subst hy
    simp only [iff_true]
    rw [link_folds, link_folds]
    rcases h with ⟨a, b, c, d⟩ | ⟨a, b, c, d⟩ | ⟨a, b, c, d⟩ | ⟨a, b, c, d⟩
    · rw [b, c, d, num_eq (n' := x'.s) (n := x.s) (by simpa using a)]
    · rw [a, c, d, num_eq (n' := x'.n) (n := x.n) (by simpa using b)]
    · rw [a, b, d, num_eq (n' := x'.m) (n := x.m) (by simpa using c)]
    · rw [a, b, c, num_eq (n' := x'.r) (n := x.r) (by simpa using d)]
  · simp only [hy, iff_false]
    rw [link_folds, link_folds]
    rcases h with ⟨a, b, c, d⟩ | ⟨a, b, c, d⟩ | ⟨a, b, c, d⟩ | ⟨a, b, c, d⟩
    · rw [b, c, d]
      intro e
      exact num_ne hk hb hy a hs (num_inj (fold_lt hs) (fold_lt hs) (num_inj (fold_lt (fold_lt hs)) (fold_lt (fold_lt hs)) (num_inj (fold_lt (fold_lt (fold_lt hs))) (fold_lt (fold_lt (fold_lt hs))) e)))
    · rw [a, c, d]
      intro e
      exact num_ne hk hb hy b (fold_lt hs) (num_inj (fold_lt (fold_lt hs)) (fold_lt (fold_lt hs)) (num_inj (fold_lt (fold_lt (fold_lt hs))) (fold_lt (fold_lt (fold_lt hs))) e))
    · rw [a, b, d]
      intro e
      exact num_ne hk hb hy c (fold_lt (fold_lt hs)) (num_inj (fold_lt (fold_lt (fold_lt hs))) (fold_lt (fold_lt (fold_lt hs))) e)
    · rw [a, b, c]
      exact num_ne hk hb hy d (fold_lt (fold_lt (fold_lt hs)))

theorem link_of_nums {x x' : Rd} (a : x'.s = x.s) (b : x'.n = x.n) (c : x'.m = x.m) (d : x'.r = x.r) (s : Nat) : link s x' = link s x := by
  rw [link_folds, link_folds, a, b, c, d]

/-! ### One reading of a chain that is right -/
theorem chk_off {seed : Nat} {l : List Rd} {p : Nat} {x' : Rd} (hp : p < l.length) (hc : chk seed l = -1)
    (h : ∀ s, s = stAt seed l p → ¬ (link s x' = link s l[p] ↔ x'.k = l[p].k)) : chk seed (l.set p x') = (p : Int) := by
  refine (isChk_eq (.inr ⟨p, by rw [List.length_set]; exact hp, rfl, ?_, fun i hi => ?_⟩)).symm
  · have hr := right_of_chk hc hp
    have e0 : l[p]? = some l[p] := List.getElem?_eq_getElem hp
    simp only [rightAt, e0, Bool.and_eq_true, decide_eq_true_eq] at hr
    cases hq : rightAt seed (l.set p x') p with
    | false => rfl
    | true =>
      exfalso
      have e : (l.set p x')[p]? = some x' := by simp [hp]
      have hst : stAt seed (l.set p x') p = stAt seed l p := by
        have hpv : prevAt (l.set p x') p = prevAt l p := by
          unfold prevAt
          split
          · rfl
          · rw [List.getElem?_set_ne (by omega)]
        unfold stAt
        rw [hpv]
      simp only [rightAt, e, Bool.and_eq_true, decide_eq_true_eq, hst] at hq
      refine h _ rfl ⟨fun e1 => ?_, fun e1 => ?_⟩
      · rw [hq.2, e1, ← hr.2]
      · rw [← hq.2, e1, hr.2]
  · have h1 : ∀ j, j ≤ i → (l.set p x')[j]? = l[j]? := fun j hj => by rw [List.getElem?_set_ne (by omega)]
    have hpv : prevAt (l.set p x') i = prevAt l i := by
      unfold prevAt
      split
      · rfl
      · exact h1 (i - 1) (by omega)
    have := right_of_chk hc (i := i) (by omega)
    unfold rightAt okAt stAt at this ⊢
    rw [hpv, h1 i (Nat.le_refl _)]
    exact this

end Go.Proofs.Ytddbobphmakmmaa
