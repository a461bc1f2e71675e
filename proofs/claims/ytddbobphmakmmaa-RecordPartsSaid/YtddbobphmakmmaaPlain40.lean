/- Chapter 40 in plain Lean: readings, their links, chains that are right. No statement about the program. -/
import Derived.Below
namespace Go.Proofs.Ytddbobphmakmmaa

/-! ### Readings -/
structure Rd where
  s : Int
  n : Int
  m : Int
  r : Int
  k : Nat
  hk : k < 18446744073709551616
deriving DecidableEq

def Rd.zero : Rd := ⟨0, 0, 0, 0, 0, by decide⟩
instance : Inhabited Rd := ⟨Rd.zero⟩

def validR (x : Rd) : Bool := decide ((1 ≤ x.s ∧ x.s ≤ 1000000) ∧ (1 ≤ x.n ∧ x.n ≤ 64) ∧ (0 ≤ x.m ∧ x.m ≤ 52560000) ∧ (0 ≤ x.r ∧ x.r ≤ 1000000000))
def oldR (b x : Rd) : Bool := decide (x.m < b.m ∨ (x.s = b.s ∧ x.r < b.r))
def laterR (b x : Rd) : Bool := decide (x.s ≠ b.s ∧ x.m ≠ b.m)

/-! ### Links -/
def stepL (x b : Nat) : Nat := ((x ^^^ b) * 1099511628211) % 18446744073709551616
def u64 (n : Int) : Nat := (n % 18446744073709551616).toNat
def byteAt (n : Int) (j : Nat) : Nat := (u64 n >>> (56 - 8 * j)) % 256
def bytes8 (n : Int) : List Nat := (List.range 8).map (byteAt n)
def bytesR (x : Rd) : List Nat := bytes8 x.s ++ bytes8 x.n ++ bytes8 x.m ++ bytes8 x.r
def link (x : Nat) (y : Rd) : Nat := (bytesR y).foldl stepL x

theorem u64_lt (n : Int) : u64 n < 18446744073709551616 := by unfold u64; omega
theorem byteAt_lt (n : Int) (j : Nat) : byteAt n j < 256 := Nat.mod_lt _ (by decide)
theorem stepL_lt (x b : Nat) : stepL x b < 18446744073709551616 := Nat.mod_lt _ (by decide)
theorem bytesR_length (x : Rd) : (bytesR x).length = 32 := by simp [bytesR, bytes8]
theorem bytesR_lt {x : Rd} {b : Nat} (h : b ∈ bytesR x) : b < 256 := by
  simp only [bytesR, bytes8, List.mem_append, List.mem_map] at h
  rcases h with ((⟨j, _, rfl⟩ | ⟨j, _, rfl⟩) | ⟨j, _, rfl⟩) | ⟨j, _, rfl⟩ <;> exact byteAt_lt _ _

theorem fold_lt {l : List Nat} : ∀ {x : Nat}, x < 18446744073709551616 → l.foldl stepL x < 18446744073709551616 := by
  induction l with
  | nil => exact fun h => h
  | cons b l ih => exact fun _ => ih (stepL_lt _ _)
theorem link_lt {x : Nat} {y : Rd} (h : x < 18446744073709551616) : link x y < 18446744073709551616 := fold_lt h

theorem mul_prime_inv {y : Nat} (h : y < 18446744073709551616) : ((y * 1099511628211) % 18446744073709551616 * 14886173955864302971) % 18446744073709551616 = y := by
  rw [Nat.mul_mod, Nat.mod_mod, ← Nat.mul_mod, Nat.mul_assoc, Nat.mul_mod, show (1099511628211 * 14886173955864302971) % 18446744073709551616 = 1 by decide, Nat.mul_one, Nat.mod_mod, Nat.mod_eq_of_lt h]

theorem xor_lt {x b : Nat} (hx : x < 18446744073709551616) (hb : b < 256) : x ^^^ b < 18446744073709551616 :=
  Nat.xor_lt_two_pow (n := 64) hx (by omega)

theorem stepL_inj {x y b c : Nat} (hx : x < 18446744073709551616) (hy : y < 18446744073709551616) (hb : b < 256) (hc : c < 256) (h : stepL x b = stepL y c) : x ^^^ b = y ^^^ c := by
  unfold stepL at h
  have h1 := mul_prime_inv (xor_lt hx hb)
  have h2 := mul_prime_inv (xor_lt hy hc)
  rw [h] at h1
  exact h1.symm.trans h2

theorem stepL_inj_left {x y b : Nat} (hx : x < 18446744073709551616) (hy : y < 18446744073709551616) (hb : b < 256) (h : stepL x b = stepL y b) : x = y := by
  have := stepL_inj hx hy hb hb h
  have h2 : (x ^^^ b) ^^^ b = (y ^^^ b) ^^^ b := by rw [this]
  simpa [Nat.xor_assoc] using h2

theorem stepL_inj_right {x b c : Nat} (hx : x < 18446744073709551616) (hb : b < 256) (hc : c < 256) (h : stepL x b = stepL x c) : b = c := by
  have := stepL_inj hx hx hb hc h
  have h2 : x ^^^ (x ^^^ b) = x ^^^ (x ^^^ c) := by rw [this]
  simpa [← Nat.xor_assoc] using h2

theorem fold_inj {l : List Nat} (hl : ∀ b ∈ l, b < 256) : ∀ {x y : Nat}, x < 18446744073709551616 → y < 18446744073709551616 → l.foldl stepL x = l.foldl stepL y → x = y := by
  induction l with
  | nil => exact fun _ _ h => h
  | cons b l ih =>
    intro x y hx hy h
    exact stepL_inj_left hx hy (hl b (List.mem_cons_self ..)) (ih (fun c hc => hl c (List.mem_cons_of_mem _ hc)) (stepL_lt _ _) (stepL_lt _ _) h)

/-- One byte differs: the fold differs. -/
theorem fold_one {l l' : List Nat} {b c : Nat} (hl' : ∀ b ∈ l', b < 256) (hb : b < 256) (hc : c < 256) (hbc : b ≠ c) {x : Nat} (hx : x < 18446744073709551616) : (l ++ b :: l').foldl stepL x ≠ (l ++ c :: l').foldl stepL x := by
  rw [List.foldl_append, List.foldl_append, List.foldl_cons, List.foldl_cons]
  intro h
  exact hbc (stepL_inj_right (fold_lt hx) hb hc (fold_inj hl' (stepL_lt _ _) (stepL_lt _ _) h))

theorem link_inj {x y : Nat} {r : Rd} (hx : x < 18446744073709551616) (hy : y < 18446744073709551616) (h : link x r = link y r) : x = y := fold_inj (fun _ => bytesR_lt) hx hy h

/-! ### Chains -/
def okN (prev : Option Rd) (i : Nat) (x : Rd) : Bool :=
  validR x && decide (x.n = (i : Int) + 1) && (match prev with | none => true | some b => !oldR b x && !laterR b x)
def prevAt (l : List Rd) (i : Nat) : Option Rd := if i = 0 then none else l[i - 1]?
def okAt (l : List Rd) (i : Nat) : Bool := match l[i]? with | none => false | some x => okN (prevAt l i) i x
def stAt (seed : Nat) (l : List Rd) (i : Nat) : Nat := match prevAt l i with | none => seed | some b => b.k
def rightAt (seed : Nat) (l : List Rd) (i : Nat) : Bool := okAt l i && (match l[i]? with | none => false | some x => decide (x.k = link (stAt seed l i) x))

def chk (seed : Nat) (l : List Rd) : Int := match (List.range l.length).find? (fun i => !rightAt seed l i) with | none => -1 | some i => (i : Int)

def IsChk (seed : Nat) (l : List Rd) (v : Int) : Prop := (v = -1 ∧ ∀ i, i < l.length → rightAt seed l i = true) ∨ (∃ k, k < l.length ∧ v = (k : Int) ∧ rightAt seed l k = false ∧ ∀ i, i < k → rightAt seed l i = true)

theorem chk_is (seed : Nat) (l : List Rd) : IsChk seed l (chk seed l) := by
  unfold chk
  cases h : (List.range l.length).find? (fun i => !rightAt seed l i) with
  | none =>
    left
    refine ⟨rfl, fun i hi => ?_⟩
    have := List.find?_eq_none.1 h i (List.mem_range.2 hi)
    simpa using this
  | some k =>
    right
    obtain ⟨hk, as, bs, hab, has⟩ := List.find?_eq_some_iff_append.1 h
    have hkl : k < l.length := List.mem_range.1 (by rw [hab]; simp)
    refine ⟨k, hkl, rfl, by simpa using hk, fun i hi => ?_⟩
    have hlen : as.length = k := by
      have h1 := congrArg (fun z => z[as.length]?) hab
      simp only [List.getElem?_append_right (Nat.le_refl _), Nat.sub_self, List.getElem?_cons_zero] at h1
      have h2 : as.length < l.length := by
        have := congrArg List.length hab
        simp at this
        omega
      rw [List.getElem?_range h2] at h1
      simpa using h1
    have h1 := congrArg (fun z => z[i]?) hab
    rw [List.getElem?_range (by omega), List.getElem?_append_left (by omega)] at h1
    have := has i (List.mem_of_getElem? h1.symm)
    simpa using this

theorem isChk_uniq {seed : Nat} {l : List Rd} {v v' : Int} (h : IsChk seed l v) (h' : IsChk seed l v') : v = v' := by
  rcases h with ⟨rfl, h⟩ | ⟨k, hk, rfl, hf, h⟩ <;> rcases h' with ⟨rfl, h'⟩ | ⟨k', hk', rfl, hf', h'⟩
  · rfl
  · rw [h k' hk'] at hf'; cases hf'
  · rw [h' k hk] at hf; cases hf
  · rcases Nat.lt_trichotomy k k' with hlt | rfl | hlt
    · rw [h' k hlt] at hf; cases hf
    · rfl
    · rw [h k' hlt] at hf'; cases hf'

theorem isChk_eq {seed : Nat} {l : List Rd} {v : Int} (h : IsChk seed l v) : v = chk seed l := isChk_uniq h (chk_is seed l)

/-- Readings in order, all of them. -/
def ordered (l : List Rd) : Bool := (List.range l.length).all (okAt l)
theorem ordered_iff {l : List Rd} : ordered l = true ↔ ∀ i, i < l.length → okAt l i = true := by simp [ordered, List.all_eq_true]

theorem okAt_parts {l : List Rd} {i : Nat} (h : okAt l i = true) : ∃ x, l[i]? = some x ∧ okN (prevAt l i) i x = true := by
  unfold okAt at h
  cases hx : l[i]? with
  | none => rw [hx] at h; cases h
  | some x => rw [hx] at h; exact ⟨x, rfl, h⟩

theorem okN_valid {p : Option Rd} {i : Nat} {x : Rd} (h : okN p i x = true) : validR x = true ∧ x.n = (i : Int) + 1 := by
  simp only [okN, Bool.and_eq_true, decide_eq_true_eq] at h
  exact ⟨h.1.1, h.1.2⟩

theorem validR_iff {x : Rd} : validR x = true ↔ (1 ≤ x.s ∧ x.s ≤ 1000000) ∧ (1 ≤ x.n ∧ x.n ≤ 64) ∧ (0 ≤ x.m ∧ x.m ≤ 52560000) ∧ (0 ≤ x.r ∧ x.r ≤ 1000000000) := by simp [validR]

/-- In order: at most 64. -/
theorem okAt_le {l : List Rd} {i : Nat} (h : okAt l i = true) : i < 64 := by
  obtain ⟨x, _, hx⟩ := okAt_parts h
  obtain ⟨hv, hn⟩ := okN_valid hx
  have := (validR_iff.1 hv).2.1
  omega
theorem ordered_le {l : List Rd} (h : ordered l = true) : l.length ≤ 64 := by
  rcases Nat.lt_or_ge 64 l.length with hl | hl
  · have := okAt_le (ordered_iff.1 h 64 hl)
    omega
  · exact hl

/-! ### Energies -/
def gain (b x : Rd) : Int := if x.s = b.s then x.r - b.r else 0
def getR (l : List Rd) (i : Nat) : Rd := l.getD i Rd.zero
/-- The energy from the reading with the number a to that with the number b (numbers from 1 on). -/
def energy (l : List Rd) (a : Nat) : Nat → Int
  | 0 => 0
  | d + 1 => energy l a d + gain (getR l (a + d - 1)) (getR l (a + d))

theorem getR_eq {l : List Rd} {i : Nat} (h : i < l.length) : getR l i = l[i] := by simp [getR, h]
theorem getR_some {l : List Rd} {i : Nat} (h : i < l.length) : l[i]? = some (getR l i) := by simp [getR, h]

theorem gain_nonneg {l : List Rd} (h : ordered l = true) {i : Nat} (h0 : 1 ≤ i) (hi : i < l.length) : 0 ≤ gain (getR l (i - 1)) (getR l i) ∧ gain (getR l (i - 1)) (getR l i) ≤ 1000000000 := by
  obtain ⟨x, hx, hok⟩ := okAt_parts (ordered_iff.1 h i hi)
  obtain ⟨y, hy, hok'⟩ := okAt_parts (ordered_iff.1 h (i - 1) (by omega))
  have ex : getR l i = x := by rw [getR_some hi] at hx; exact Option.some.inj hx
  have ey : getR l (i - 1) = y := by rw [getR_some (by omega)] at hy; exact Option.some.inj hy
  have hp : prevAt l i = some y := by unfold prevAt; rw [if_neg (by omega)]; exact hy
  rw [ex, ey]
  have hv := (validR_iff.1 (okN_valid hok).1).2.2.2
  have hv' := (validR_iff.1 (okN_valid hok').1).2.2.2
  simp only [okN, hp, Bool.and_eq_true, Bool.not_eq_true', oldR, decide_eq_false_iff_not, not_or, not_and] at hok
  unfold gain
  split
  · rename_i hs
    have := hok.2.1.2 hs
    omega
  · omega

theorem energy_nonneg {l : List Rd} (h : ordered l = true) {a : Nat} (ha : 1 ≤ a) : ∀ {d : Nat}, a + d ≤ l.length → 0 ≤ energy l a d ∧ energy l a d ≤ 1000000000 * d
  | 0, _ => by simp [energy]
  | d + 1, hd => by
    have h1 := energy_nonneg h ha (d := d) (by omega)
    have h2 := gain_nonneg h (i := a + d) (by omega) (by omega)
    unfold energy
    omega

theorem energy_add (l : List Rd) (a c : Nat) : ∀ d, energy l a (c + d) = energy l a c + energy l (a + c) d
  | 0 => by simp [energy]
  | d + 1 => by
    rw [← Nat.add_assoc, energy, energy_add l a c d, energy, show a + (c + d) - 1 = a + c + d - 1 by omega, ← Nat.add_assoc a c d]
    omega

end Go.Proofs.Ytddbobphmakmmaa
