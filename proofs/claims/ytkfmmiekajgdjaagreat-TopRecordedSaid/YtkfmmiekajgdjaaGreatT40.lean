/- Package chain: contracts of its functions. -/
import Derived.Below
import Derived.Deep.MidRow
import Derived.ChangeKeysEq
import Derived.RangeFuncNested
import Derived.RangeFuncBound
import Derived.RangeFuncCalls
import Derived.RangeFuncLeaves
import Derived.RangeFuncBox
import Derived.Shelf.Abstract
import Derived.OwnWalkIn
import Derived.TacticsInMore
import Derived.LoopNIn
import Derived.LoopIn
import Derived.Handy
import Derived.Deep.RegionWith
import Derived.Deep.QuietTactic
import Derived.BigQuiet
import Derived.Deep.Cut
import Derived.Laws.BitsAllLaws
import Derived.WalkMore
import Derived.Deep.AppendSrc
import Derived.Deep.RegionLaw
import Derived.Laws.MakeOwn
import Derived.Test.YtkfmmiekajgdjaaGreatTBase
namespace Go.Proofs.YtkfmmiekajgdjaaGreat
/-! ### Plain40 -/
section
/-! ### Readings -/
structure Rd where
  s : Int
  n : Int
  m : Int
  r : Int
  k : Nat
  hk : k < 18446744073709551616
deriving DecidableEq

def Rd.zero : Rd := ⟨0, 0, 0, 0, 0, by decide⟩
instance : Inhabited Rd := ⟨Rd.zero⟩

def validR (x : Rd) : Bool := decide ((1 ≤ x.s ∧ x.s ≤ 1000000) ∧ (1 ≤ x.n ∧ x.n ≤ 64) ∧ (0 ≤ x.m ∧ x.m ≤ 52560000) ∧ (0 ≤ x.r ∧ x.r ≤ 1000000000))
def oldR (b x : Rd) : Bool := decide (x.m < b.m ∨ (x.s = b.s ∧ x.r < b.r))
def laterR (b x : Rd) : Bool := decide (x.s ≠ b.s ∧ x.m ≠ b.m)

/-! ### Links -/
def stepL (x b : Nat) : Nat := ((x ^^^ b) * 1099511628211) % 18446744073709551616
def u64 (n : Int) : Nat := (n % 18446744073709551616).toNat
def byteAt (n : Int) (j : Nat) : Nat := (u64 n >>> (56 - 8 * j)) % 256
def bytes8 (n : Int) : List Nat := (List.range 8).map (byteAt n)
def bytesR (x : Rd) : List Nat := bytes8 x.s ++ bytes8 x.n ++ bytes8 x.m ++ bytes8 x.r
def link (x : Nat) (y : Rd) : Nat := (bytesR y).foldl stepL x

theorem u64_lt (n : Int) : u64 n < 18446744073709551616 := by unfold u64; omega
theorem byteAt_lt (n : Int) (j : Nat) : byteAt n j < 256 := Nat.mod_lt _ (by decide)
theorem stepL_lt (x b : Nat) : stepL x b < 18446744073709551616 := Nat.mod_lt _ (by decide)
theorem bytesR_length (x : Rd) : (bytesR x).length = 32 := by simp [bytesR, bytes8]
theorem bytesR_lt {x : Rd} {b : Nat} (h : b ∈ bytesR x) : b < 256 := by
  simp only [bytesR, bytes8, List.mem_append, List.mem_map] at h
  rcases h with ((⟨j, _, rfl⟩ | ⟨j, _, rfl⟩) | ⟨j, _, rfl⟩) | ⟨j, _, rfl⟩ <;> exact byteAt_lt _ _

theorem fold_lt {l : List Nat} : ∀ {x : Nat}, x < 18446744073709551616 → l.foldl stepL x < 18446744073709551616 := by
  induction l with
  | nil => exact fun h => h
  | cons b l ih => exact fun _ => ih (stepL_lt _ _)
theorem link_lt {x : Nat} {y : Rd} (h : x < 18446744073709551616) : link x y < 18446744073709551616 := fold_lt h

theorem mul_prime_inv {y : Nat} (h : y < 18446744073709551616) : ((y * 1099511628211) % 18446744073709551616 * 14886173955864302971) % 18446744073709551616 = y := by
  rw [Nat.mul_mod, Nat.mod_mod, ← Nat.mul_mod, Nat.mul_assoc, Nat.mul_mod, show (1099511628211 * 14886173955864302971) % 18446744073709551616 = 1 by decide, Nat.mul_one, Nat.mod_mod, Nat.mod_eq_of_lt h]

theorem xor_lt {x b : Nat} (hx : x < 18446744073709551616) (hb : b < 256) : x ^^^ b < 18446744073709551616 :=
  Nat.xor_lt_two_pow (n := 64) hx (by omega)

theorem stepL_inj {x y b c : Nat} (hx : x < 18446744073709551616) (hy : y < 18446744073709551616) (hb : b < 256) (hc : c < 256) (h : stepL x b = stepL y c) : x ^^^ b = y ^^^ c := by
  unfold stepL at h
  have h1 := mul_prime_inv (xor_lt hx hb)
  have h2 := mul_prime_inv (xor_lt hy hc)
  rw [h] at h1
  exact h1.symm.trans h2

theorem stepL_inj_left {x y b : Nat} (hx : x < 18446744073709551616) (hy : y < 18446744073709551616) (hb : b < 256) (h : stepL x b = stepL y b) : x = y := by
  have := stepL_inj hx hy hb hb h
  have h2 : (x ^^^ b) ^^^ b = (y ^^^ b) ^^^ b := by rw [this]
  simpa [Nat.xor_assoc] using h2

theorem stepL_inj_right {x b c : Nat} (hx : x < 18446744073709551616) (hb : b < 256) (hc : c < 256) (h : stepL x b = stepL x c) : b = c := by
  have := stepL_inj hx hx hb hc h
  have h2 : x ^^^ (x ^^^ b) = x ^^^ (x ^^^ c) := by rw [this]
  simpa [← Nat.xor_assoc] using h2

theorem fold_inj {l : List Nat} (hl : ∀ b ∈ l, b < 256) : ∀ {x y : Nat}, x < 18446744073709551616 → y < 18446744073709551616 → l.foldl stepL x = l.foldl stepL y → x = y := by
  induction l with
  | nil => exact fun _ _ h => h
  | cons b l ih =>
    intro x y hx hy h
    exact stepL_inj_left hx hy (hl b (List.mem_cons_self ..)) (ih (fun c hc => hl c (List.mem_cons_of_mem _ hc)) (stepL_lt _ _) (stepL_lt _ _) h)

/-- One byte differs: the fold differs. -/
theorem fold_one {l l' : List Nat} {b c : Nat} (hl' : ∀ b ∈ l', b < 256) (hb : b < 256) (hc : c < 256) (hbc : b ≠ c) {x : Nat} (hx : x < 18446744073709551616) : (l ++ b :: l').foldl stepL x ≠ (l ++ c :: l').foldl stepL x := by
  rw [List.foldl_append, List.foldl_append, List.foldl_cons, List.foldl_cons]
  intro h
  exact hbc (stepL_inj_right (fold_lt hx) hb hc (fold_inj hl' (stepL_lt _ _) (stepL_lt _ _) h))

theorem link_inj {x y : Nat} {r : Rd} (hx : x < 18446744073709551616) (hy : y < 18446744073709551616) (h : link x r = link y r) : x = y := fold_inj (fun _ => bytesR_lt) hx hy h

/-! ### Chains -/
def okN (prev : Option Rd) (i : Nat) (x : Rd) : Bool :=
  validR x && decide (x.n = (i : Int) + 1) && (match prev with | none => true | some b => !oldR b x && !laterR b x)
def prevAt (l : List Rd) (i : Nat) : Option Rd := if i = 0 then none else l[i - 1]?
def okAt (l : List Rd) (i : Nat) : Bool := match l[i]? with | none => false | some x => okN (prevAt l i) i x
def stAt (seed : Nat) (l : List Rd) (i : Nat) : Nat := match prevAt l i with | none => seed | some b => b.k
def rightAt (seed : Nat) (l : List Rd) (i : Nat) : Bool := okAt l i && (match l[i]? with | none => false | some x => decide (x.k = link (stAt seed l i) x))

def chk (seed : Nat) (l : List Rd) : Int := match (List.range l.length).find? (fun i => !rightAt seed l i) with | none => -1 | some i => (i : Int)

def IsChk (seed : Nat) (l : List Rd) (v : Int) : Prop := (v = -1 ∧ ∀ i, i < l.length → rightAt seed l i = true) ∨ (∃ k, k < l.length ∧ v = (k : Int) ∧ rightAt seed l k = false ∧ ∀ i, i < k → rightAt seed l i = true)

theorem chk_is (seed : Nat) (l : List Rd) : IsChk seed l (chk seed l) := by
  unfold chk
  cases h : (List.range l.length).find? (fun i => !rightAt seed l i) with
  | none =>
    left
    refine ⟨rfl, fun i hi => ?_⟩
    have := List.find?_eq_none.1 h i (List.mem_range.2 hi)
    simpa using this
  | some k =>
    right
    obtain ⟨hk, asx, bs, hab, has⟩ := List.find?_eq_some_iff_append.1 h
    have hkl : k < l.length := List.mem_range.1 (by rw [hab]; simp)
    refine ⟨k, hkl, rfl, by simpa using hk, fun i hi => ?_⟩
    have hlen : asx.length = k := by
      have h1 := congrArg (fun z => z[asx.length]?) hab
      simp only [List.getElem?_append_right (Nat.le_refl _), Nat.sub_self, List.getElem?_cons_zero] at h1
      have h2 : asx.length < l.length := by
        have := congrArg List.length hab
        simp at this
        omega
      rw [List.getElem?_range h2] at h1
      simpa using h1
    have h1 := congrArg (fun z => z[i]?) hab
    rw [List.getElem?_range (by omega), List.getElem?_append_left (by omega)] at h1
    have := has i (List.mem_of_getElem? h1.symm)
    simpa using this

theorem isChk_uniq {seed : Nat} {l : List Rd} {v v' : Int} (h : IsChk seed l v) (h' : IsChk seed l v') : v = v' := by
  rcases h with ⟨rfl, h⟩ | ⟨k, hk, rfl, hf, h⟩ <;> rcases h' with ⟨rfl, h'⟩ | ⟨k', hk', rfl, hf', h'⟩
  · rfl
  · rw [h k' hk'] at hf'; cases hf'
  · rw [h' k hk] at hf; cases hf
  · rcases Nat.lt_trichotomy k k' with hlt | rfl | hlt
    · rw [h' k hlt] at hf; cases hf
    · rfl
    · rw [h k' hlt] at hf'; cases hf'

theorem isChk_eq {seed : Nat} {l : List Rd} {v : Int} (h : IsChk seed l v) : v = chk seed l := isChk_uniq h (chk_is seed l)

/-- Readings in order, all of them. -/
def ordered (l : List Rd) : Bool := (List.range l.length).all (okAt l)
theorem ordered_iff {l : List Rd} : ordered l = true ↔ ∀ i, i < l.length → okAt l i = true := by simp [ordered, List.all_eq_true]

theorem okAt_parts {l : List Rd} {i : Nat} (h : okAt l i = true) : ∃ x, l[i]? = some x ∧ okN (prevAt l i) i x = true := by
  unfold okAt at h
  cases hx : l[i]? with
  | none => rw [hx] at h; cases h
  | some x => rw [hx] at h; exact ⟨x, rfl, h⟩

theorem okN_valid {p : Option Rd} {i : Nat} {x : Rd} (h : okN p i x = true) : validR x = true ∧ x.n = (i : Int) + 1 := by
  simp only [okN, Bool.and_eq_true, decide_eq_true_eq] at h
  exact ⟨h.1.1, h.1.2⟩

theorem validR_iff {x : Rd} : validR x = true ↔ (1 ≤ x.s ∧ x.s ≤ 1000000) ∧ (1 ≤ x.n ∧ x.n ≤ 64) ∧ (0 ≤ x.m ∧ x.m ≤ 52560000) ∧ (0 ≤ x.r ∧ x.r ≤ 1000000000) := by simp [validR]

/-- In order: at most 64. -/
theorem okAt_le {l : List Rd} {i : Nat} (h : okAt l i = true) : i < 64 := by
  obtain ⟨x, _, hx⟩ := okAt_parts h
  obtain ⟨hv, hn⟩ := okN_valid hx
  have := (validR_iff.1 hv).2.1
  omega
theorem ordered_le {l : List Rd} (h : ordered l = true) : l.length ≤ 64 := by
  rcases Nat.lt_or_ge 64 l.length with hl | hl
  · have := okAt_le (ordered_iff.1 h 64 hl)
    omega
  · exact hl

/-! ### Energies -/
def gain (b x : Rd) : Int := if x.s = b.s then x.r - b.r else 0
def getR (l : List Rd) (i : Nat) : Rd := l.getD i Rd.zero
/-- The energy from the reading with the number a to that with the number b (numbers from 1 on). -/
def energy (l : List Rd) (a : Nat) : Nat → Int
  | 0 => 0
  | d + 1 => energy l a d + gain (getR l (a + d - 1)) (getR l (a + d))

theorem getR_eq {l : List Rd} {i : Nat} (h : i < l.length) : getR l i = l[i] := by simp [getR, h]
theorem getR_some {l : List Rd} {i : Nat} (h : i < l.length) : l[i]? = some (getR l i) := by simp [getR, h]

theorem gain_nonneg {l : List Rd} (h : ordered l = true) {i : Nat} (h0 : 1 ≤ i) (hi : i < l.length) : 0 ≤ gain (getR l (i - 1)) (getR l i) ∧ gain (getR l (i - 1)) (getR l i) ≤ 1000000000 := by
  obtain ⟨x, hx, hok⟩ := okAt_parts (ordered_iff.1 h i hi)
  obtain ⟨y, hy, hok'⟩ := okAt_parts (ordered_iff.1 h (i - 1) (by omega))
  have ex : getR l i = x := by rw [getR_some hi] at hx; exact Option.some.inj hx
  have ey : getR l (i - 1) = y := by rw [getR_some (by omega)] at hy; exact Option.some.inj hy
  have hp : prevAt l i = some y := by unfold prevAt; rw [if_neg (by omega)]; exact hy
  rw [ex, ey]
  have hv := (validR_iff.1 (okN_valid hok).1).2.2.2
  have hv' := (validR_iff.1 (okN_valid hok').1).2.2.2
  simp only [okN, hp, Bool.and_eq_true, Bool.not_eq_true', oldR, decide_eq_false_iff_not, not_or, not_and] at hok
  unfold gain
  split
  · rename_i hs
    have := hok.2.1.2 hs
    omega
  · omega

theorem energy_nonneg {l : List Rd} (h : ordered l = true) {a : Nat} (ha : 1 ≤ a) : ∀ {d : Nat}, a + d ≤ l.length → 0 ≤ energy l a d ∧ energy l a d ≤ 1000000000 * d
  | 0, _ => by simp [energy]
  | d + 1, hd => by
    have h1 := energy_nonneg h ha (d := d) (by omega)
    have h2 := gain_nonneg h (i := a + d) (by omega) (by omega)
    unfold energy
    omega

theorem energy_add (l : List Rd) (a c : Nat) : ∀ d, energy l a (c + d) = energy l a c + energy l (a + c) d
  | 0 => by simp [energy]
  | d + 1 => by
    rw [← Nat.add_assoc, energy, energy_add l a c d, energy, show a + (c + d) - 1 = a + c + d - 1 by omega, ← Nat.add_assoc a c d]
    omega
end
/-! ### Arr -/
section
open Go.RowKit

/-- An array (or struct) of the cells L is all of block g. -/
def Arr (w : World) (g : Nat) (t : TypeId) (L : List Value) : Prop := Blk w g t L.toArray

section
variable {w w' : World} {g : Nat} {t : TypeId} {L M : List Value}
theorem Arr.new (w : World) (t : TypeId) (L : List Value) : Arr (w.alloc (.cells L.toArray t)) w.heap.size t L := Blk.new ..
theorem Arr.lt (h : Arr w g t L) : g < w.heap.size := Blk.lt h
theorem Arr.cell (h : Arr w g t L) {j : Nat} {u : Value} (hj : L[j]? = some u) : w.cell? ⟨g, j, none⟩ = some u := by
  rw [Blk.cell h]
  simpa using hj
theorem Arr.frozen (h : Arr w g t L) (j : Nat) : w.frozen? ⟨g, j, none⟩ = false := Blk.frozen h j
theorem Arr.set (h : Arr w g t L) (j : Nat) (u : Value) : Arr (w.setCell ⟨g, j, none⟩ u) g t (L.set j u) := by
  have := Blk.set h j u
  unfold Arr
  simpa using this
theorem Arr.later (h : Arr w g t L) (hb : Below w.heap.size w w') : Arr w' g t L := Blk.later h hb
theorem Arr.other (h : Arr w g t L) {p : Addr} (hp : g ≠ p.block) (u : Value) : Arr (w.setCell p u) g t L := Blk.other h hp u
theorem Arr.alloc (h : Arr w g t L) (o : Obj) : Arr (w.alloc o) g t L := Blk.alloc h o
theorem Arr.range (h : Arr w g t L) : w.rangeAt g 0 L := fun j v hv => by
  rw [Nat.zero_add]
  exact h.cell hv
theorem Arr.there (h : Arr w g t L) (hM : M.length = L.length) : w.there g 0 M.toArray.size := fun j hj => by
  have hj' : j < L.length := by simpa [hM] using hj
  rw [Nat.zero_add]
  exact ⟨by rw [h.cell (List.getElem?_eq_getElem hj')]; rfl, h.frozen j⟩

theorem heap_setCells (b : Nat) : ∀ (vs : List Value) (o : Nat) (w : World) (k : Nat), k ≠ b → (w.setCells b o vs).heap[k]? = w.heap[k]?
  | [], _, _, _, _ => rfl
  | v :: r, o, w, k, h => by rw [World.setCells, heap_setCells b r (o + 1) _ k h, Below.heap_setCell _ _ _ _ h]
theorem size_setCells (b : Nat) : ∀ (vs : List Value) (o : Nat) (w : World), (w.setCells b o vs).heap.size = w.heap.size
  | [], _, _ => rfl
  | v :: r, o, w => by rw [World.setCells, size_setCells b r (o + 1)]; simp [World.setCell]
theorem same_setCells (b : Nat) : ∀ (vs : List Value) (o : Nat) (w : World), (w.setCells b o vs).os = w.os ∧ (w.setCells b o vs).tape = w.tape ∧ (w.setCells b o vs).output = w.output
  | [], _, _ => ⟨rfl, rfl, rfl⟩
  | v :: r, o, w => by rw [World.setCells]; exact same_setCells b r (o + 1) _

theorem Blk.setCells {g : Nat} {t : TypeId} : ∀ (vs : List Value) (o : Nat) (w : World) (cs : Array Value), Blk w g t cs →
    ∃ cs', Blk (w.setCells g o vs) g t cs' ∧ cs'.size = cs.size ∧ ∀ i, i < cs.size → cs'[i]? = if o ≤ i ∧ i < o + vs.length then vs[i - o]? else cs[i]?
  | [], o, w, cs, h => ⟨cs, h, rfl, fun i _ => by rw [if_neg (by simp only [List.length_nil]; omega)]⟩
  | v :: r, o, w, cs, h => by
    obtain ⟨cs', h1, h2, h3⟩ := Blk.setCells r (o + 1) _ _ (h.set o v)
    refine ⟨cs', h1, by simpa using h2, fun i hi => ?_⟩
    rw [h3 i (by simpa using hi)]
    by_cases hoi : o = i
    · subst hoi
      rw [if_neg (by omega), if_pos (by simp)]
      simp [hi]
    · by_cases h4 : o + 1 ≤ i ∧ i < o + 1 + r.length
      · rw [if_pos h4, if_pos (by simp; omega), show i - o = (i - (o + 1)) + 1 by omega, List.getElem?_cons_succ]
      · rw [if_neg h4, if_neg (by simp; omega), Array.getElem?_setIfInBounds_ne hoi]

/-- Stored whole. -/
theorem Arr.stored (h : Arr w g t L) (hM : M.length = L.length) : Arr (w.setCells g 0 M) g t M := by
  obtain ⟨cs', k1, k2, k3⟩ := Blk.setCells M 0 w _ h
  have hs : L.toArray.size = L.length := by simp
  have : cs' = M.toArray := by
    apply Array.ext_getElem?
    intro i
    rcases Nat.lt_or_ge i L.length with hi | hi
    · rw [k3 i (by omega), if_pos (by simp [hM, hi])]
      simp
    · rw [Array.getElem?_eq_none (by omega), Array.getElem?_eq_none (by simp [hM, hi])]
  rw [this] at k1
  exact k1
theorem below_setCells {B : Nat} {w0 : World} (hb : Below B w0 w) (hg : B ≤ g) (M : List Value) (o : Nat) : Below B w0 (w.setCells g o M) := by
  obtain ⟨h1, h2, h3⟩ := same_setCells g M o w
  exact hb.trans ⟨h1, h2, h3, by rw [size_setCells]; exact Nat.le_refl _, fun k hk => heap_setCells g _ o w k (by omega)⟩
theorem Arr.otherCells {g' o : Nat} (h : Arr w g t L) (hg : g ≠ g') (M : List Value) : Arr (w.setCells g' o M) g t L := (heap_setCells g' M o w g hg).trans h
end
/-- An array of one-cell elements, by value, indexed. -/
theorem run_index_arr {P : Program} {w : World} {t e : TypeId} {n : Nat} (ht : P.underlying t = some (.array n e)) (he : P.plainKey e = true) (hi : (P.info? e).isSome = true) (hc : P.cellsOf e = 1) {xs : Array Value} {j : Nat} {v : Value} (hj : j < n) (hx : xs[j]? = some v) :
    (Instr.index t (.agg xs) (.int .i64 (j : Nat))).run P w = .ok v w := by
  cases hinf : P.info? e with
  | none => rw [hinf] at hi; cases hi
  | some i =>
    have hs := run_sizeOf (P := P) w hinf
    rw [hc] at hs
    have hp := run_part_plain (P := P) w he hx
    simp [Instr.index, asIntOf, run_underlying ht, hs, hp]
    intro h
    omega
end
/-! ### Iter -/
section
open Go.RowKit

def noDefer (ops : Array Oper) : Bool := ops.toList.all fun o => match o.op with | .defer _ => false | _ => true

theorem noDefer_spec {ops : Array Oper} (h : noDefer ops = true) {i : Nat} {o : Oper} (ho : ops[i]? = some o) : ∀ c, o.op ≠ .defer c := by
  intro c e
  unfold noDefer at h
  rw [List.all_eq_true] at h
  have := h o (by have := Array.mem_of_getElem? ho; simpa using this)
  rw [e] at this
  cases this

section
variable {P : Program} {ops : Array Oper} {Q : Exit → Act → World → Prop} {lp n : Nat}

theorem wpOpsIn_of (hnd : noDefer ops = true) (hLO : ¬ LetsOut Q) : ∀ (idx : List Nat) (a : Act) (w : World), wpOps P ops Q idx a w → wpOpsIn (Fence.wide.inRound lp) n P ops Q idx a w := by
  intro idx
  induction idx with
  | nil => exact fun _ _ h => h
  | cons i rest ih =>
    intro a w h
    unfold wpOps at h
    unfold wpOpsIn
    cases ho : ops[i]? with
    | none =>
      simp only [ho] at h ⊢
      exact ih a w h
    | some o =>
      simp only [ho] at h ⊢
      by_cases hw : Region.wanted o (yielded ops a.tmps) = true
      · rw [if_pos hw] at h ⊢
        rcases h with h | ⟨_, h⟩
        · refine ⟨fun _ _ => trivial, ?_⟩
          have es : o.semAt (Fence.wide.inRound lp).round a.eval = execOp a.eval o := Oper.semAt_some lp a.eval o (noDefer_spec hnd ho)
          rw [es]
          unfold Oper.wp at h
          generalize (execOp a.eval o).run P w = r at h ⊢
          cases r with
          | halt x w' => cases x <;> first | exact h | exact h.elim
          | ok nx w' =>
            cases nx <;> simp only [Oper.upon] at h <;> simp only [Oper.uponIn]
            case value v => exact ih _ _ h
            case skip => exact ih _ _ h
            case defer d => exact ih _ _ h
            case enter f args =>
              refine ⟨fun hd => by simp [Fence.wide] at hd, ?_⟩
              refine CallsIn.inRound lp (callsIn_wide.2 (h.mono fun e w'' he => ?_))
              cases e with
              | returned v => exact ih _ _ he
              | panicked c => exact he
              | outgrown => exact he
            case row rw args =>
              refine ⟨fun hd => by simp [Fence.wide] at hd, ?_⟩
              exact fun c cs _ => let ⟨v, w', r, s⟩ := (h.mono fun v w'' he => ih _ _ he) c cs; ⟨v, w', r, stepsIn_wide.2 s⟩
            all_goals exact h.elim
        · exact absurd h hLO
      · rw [if_neg hw] at h ⊢
        exact ⟨fun _ _ => trivial, ih _ _ h⟩

/-- A call met by a plain contract, in the wide fence, outside and inside a round. -/
theorem inCall {f : FuncId} {args : Array Value} {w : World} {R R' : Ending → World → Prop} (h : Calls P f args w R') (hr : ∀ e w', R' e w' → R e w') : Fence.wide.fn f ∧ (Fence.wide.depth.isSome = true → 1 ≤ n) ∧ CallsIn Fence.wide (n - 1) P f args w R :=
  ⟨trivial, fun hd => by simp [Fence.wide] at hd, callsIn_wide.2 (h.mono hr)⟩
theorem inCallR {f : FuncId} {args : Array Value} {w : World} {R R' : Ending → World → Prop} (h : Calls P f args w R') (hr : ∀ e w', R' e w' → R e w') : Fence.wide.fn f ∧ (Fence.wide.depth.isSome = true → 1 ≤ n) ∧ CallsIn (Fence.wide.inRound lp) (n - 1) P f args w R :=
  ⟨trivial, fun hd => by simp [Fence.wide] at hd, CallsIn.inRound lp (callsIn_wide.2 (h.mono hr))⟩

/-- THE RULE of XKitB, in a round of a loop over an iterator. -/
theorem wpIn_region_B {l : List Oper} {id : Nat} {a : Act} {w : World} (m : Nat) (J : World → Prop) (hm : P.follows .mixedOrders = true) (hB : orderOk l.toArray m = true) (hnd : noDefer l.toArray = true) (hLO : ¬ LetsOut Q)
    (hJ : ∀ w w', J w → Below w.heap.size w w' → J w') (h0 : J w.drew) (h' : ∀ R : Act → Prop, (∀ A, (∀ w', J w' → wpList P l.toArray Q (l.drop m) A w') → R A) → wpB P l.toArray J R (l.take m) a) : (Code.region id l.toArray true).wpIn (Fence.wide.inRound lp) n P Q a w :=
  wpIn_region_draw fun t => by
    simp only [Region.schedule, hm, Bool.true_or, if_true]
    exact wpOpsIn_of hnd hLO _ _ _ (wpAny_sound l.toArray.size t _ a _ (wpAny_B m J hB hJ h0 h'))
end
end
/-! ### Wa40 -/
section
open Go.RowKit

theorem mixed : Tryz.prog.follows .mixedOrders = true := by kernel_rfl
theorem ret_int {k : IntKind} {a b : Int} (h : a = b) : Ending.returned (.int k a) = .returned (.int k b) := by rw [h]
theorem ret_bool {a b : Bool} (h : a = b) : Ending.returned (.bool a) = .returned (.bool b) := by rw [h]

def inBand (n a b : Int) : Bool := decide (a ≤ n ∧ n ≤ b)

set_option maxHeartbeats 400000 in
theorem inside_any (n a b : Int) (w : World) : Calls Tryz.prog 61 #[.int .i64 n, .int .i64 a, .int .i64 b] w fun e w' => e = .returned (.bool (inBand n a b)) ∧ w' = w := by
  go_enter Tryz.func61, Tryz.ntmps61
  go_wp2
  all_goals
    go_ret
    refine ⟨ret_bool ?_, rfl⟩
    rw [Bool.eq_iff_iff]
    simp only [inBand, decide_eq_true_eq, Bool.false_eq_true, false_iff]
    omega

@[reducible] def rdV (x : Rd) : Value := .agg #[.int .i64 x.s, .int .i64 x.n, .int .i64 x.m, .int .i64 x.r, .int .u64 x.k]

set_option maxHeartbeats 1000000 in
theorem valid_any (x : Rd) (w : World) : Calls Tryz.prog 31 #[rdV x] w (Ret (.bool (validR x)) w) := by
  go_enter Tryz.func31, Tryz.ntmps31
  go_wp2_with (go_at_call 61; refine (inside_any _ _ _ _).mono ?_; rintro e w' ⟨rfl, rfl⟩)
  all_goals
    go_ret
    refine ⟨ret_bool ?_, by go_grown⟩
    rw [Bool.eq_iff_iff]
    simp only [validR, inBand, decide_eq_true_eq, decide_eq_false_iff_not, Bool.false_eq_true, false_iff] at *
    omega

set_option maxHeartbeats 1000000 in
theorem isOld_any (b x : Rd) (w : World) : Calls Tryz.prog 32 #[rdV b, rdV x] w (Ret (.bool (oldR b x)) w) := by
  go_enter Tryz.func32, Tryz.ntmps32
  go_wp2
  all_goals
    go_ret
    refine ⟨ret_bool ?_, by go_grown⟩
    rw [Bool.eq_iff_iff]
    simp only [oldR, decide_eq_true_eq, Bool.false_eq_true, true_iff, false_iff] at *
    omega

set_option maxHeartbeats 1000000 in
theorem isLater_any (b x : Rd) (w : World) : Calls Tryz.prog 33 #[rdV b, rdV x] w (Ret (.bool (laterR b x)) w) := by
  go_enter Tryz.func33, Tryz.ntmps33
  go_wp2
  all_goals
    go_ret
    refine ⟨ret_bool ?_, by go_grown⟩
    rw [Bool.eq_iff_iff]
    simp_all [laterR]

def bV (x : Rd) : List Value := (bytesR x).map (fun b => Value.int .u8 (b : Nat))
theorem bV_length (x : Rd) : (bV x).length = 32 := by simp [bV, bytesR_length]
def numAt (x : Rd) (i : Nat) : Int := if i = 0 then x.s else if i = 1 then x.n else if i = 2 then x.m else x.r
theorem bV_at (x : Rd) {i k : Nat} (hi : i < 4) (hk : k < 8) : (bV x)[8 * i + k]? = some (.int .u8 (byteAt (numAt x i) k : Nat)) := by
  unfold bV
  rw [List.getElem?_map]
  have h8 : ∀ n, (bytes8 n).length = 8 := fun n => by simp [bytes8]
  have hb : (bytesR x)[8 * i + k]? = some (byteAt (numAt x i) k) := by
    unfold bytesR
    have g : ∀ n, (bytes8 n)[k]? = some (byteAt n k) := fun n => by simp [bytes8, hk]
    rcases (by omega : i = 0 ∨ i = 1 ∨ i = 2 ∨ i = 3) with rfl | rfl | rfl | rfl
    · rw [List.append_assoc, List.append_assoc, List.getElem?_append_left (by rw [h8]; omega), show 8 * 0 + k = k by omega]; exact g _
    · rw [List.append_assoc, List.append_assoc, List.getElem?_append_right (by rw [h8]; omega), h8, List.getElem?_append_left (by rw [h8]; omega), show 8 * 1 + k - 8 = k by omega]; exact g _
    · rw [List.append_assoc, List.getElem?_append_right (by rw [List.length_append, h8, h8]; omega), List.length_append, h8, h8, List.getElem?_append_left (by rw [h8]; omega), show 8 * 2 + k - (8 + 8) = k by omega]; exact g _
    · rw [List.getElem?_append_right (by simp only [List.length_append, h8]; omega)]
      simp only [List.length_append, h8]
      rw [show 8 * 3 + k - (8 + 8 + 8) = k by omega]; exact g _
  rw [hb]
  rfl

theorem byte_wrap (n : Int) (k : Nat) : IntKind.u64.wrap n / 2 ^ (56 - 8 * k) % 256 = ((byteAt n k : Nat) : Int) := by
  unfold byteAt u64
  rw [IntKind.wrap_u64, Nat.shiftRight_eq_div_pow, Int.natCast_emod, Int.natCast_ediv, Int.natCast_pow, Int.toNat_of_nonneg (Int.emod_nonneg _ (by decide))]
  rfl

/-- What bytesOf has made: the result's array, the other one, of which the first c bytes are right. -/
structure BySt (w wr : World) (x : Rd) (L : List Value) (c : Nat) : Prop where
  r2 : ∃ Z : List Value, Z.length = 32 ∧ Arr wr (w.heap.size + 1) 121 Z
  r3 : Arr wr (w.heap.size + 1 + 1) 121 L
  len : L.length = 32
  bel : Below w.heap.size w wr
  right : ∀ j, j < c → L[j]? = (bV x)[j]?

theorem BySt.put {w wr : World} {x : Rd} {L : List Value} {c : Nat} (h : BySt w wr x L c) {u : Value} (hc : c < 32) (hu : (bV x)[c]? = some u) : BySt w (wr.setCell ⟨w.heap.size + 1 + 1, c, none⟩ u) x (L.set c u) (c + 1) := by
  obtain ⟨Z, hZ, hr2⟩ := h.r2
  refine ⟨⟨Z, hZ, hr2.other (by simp) _⟩, h.r3.set c u, by rw [List.length_set]; exact h.len, h.bel.setCell (by simp; omega) _, fun j hj => ?_⟩
  rw [List.getElem?_set]
  split
  · rename_i e
    subst e
    rw [if_pos (by rw [h.len]; exact hc), hu]
  · exact h.right j (by omega)

set_option maxRecDepth 100000 in
set_option maxHeartbeats 8000000 in
theorem bytesOf_any (x : Rd) (w : World) : Calls Tryz.prog 55 #[rdV x] w (Ret (.agg (bV x).toArray) w) := by
  have i0 : ∀ w, (Instr.index 127 (.agg #[.int .i64 x.s, .int .i64 x.n, .int .i64 x.m, .int .i64 x.r]) (.int .i64 0)).run Tryz.prog w = .ok (.int .i64 x.s) w := fun _ => by kernel_rfl
  have i1 : ∀ w, (Instr.index 127 (.agg #[.int .i64 x.s, .int .i64 x.n, .int .i64 x.m, .int .i64 x.r]) (.int .i64 1)).run Tryz.prog w = .ok (.int .i64 x.n) w := fun _ => by kernel_rfl
  have i2 : ∀ w, (Instr.index 127 (.agg #[.int .i64 x.s, .int .i64 x.n, .int .i64 x.m, .int .i64 x.r]) (.int .i64 2)).run Tryz.prog w = .ok (.int .i64 x.m) w := fun _ => by kernel_rfl
  have i3 : ∀ w, (Instr.index 127 (.agg #[.int .i64 x.s, .int .i64 x.n, .int .i64 x.m, .int .i64 x.r]) (.int .i64 3)).run Tryz.prog w = .ok (.int .i64 x.r) w := fun _ => by kernel_rfl
  go_enter Tryz.func55, Tryz.ntmps55
  go_wp2
  go_loopw [16] (fun u wr => ∃ i : Int, 0 ≤ i ∧ i ≤ 4 ∧ u = .int .i64 i ∧ ∃ L, BySt w wr x L (8 * i.toNat)) (fun u _ => 4 - (intOf u).toNat)
  case atStart =>
    refine ⟨0, by omega, by omega, rfl, List.replicate 32 (.int .u8 0), ⟨List.replicate 32 (.int .u8 0), by simp, ?_⟩, ?_, by simp, by go_grown, fun j hj => absurd hj (by omega)⟩
    · exact Arr.alloc (by have := Arr.new (w.alloc (.cells #[.int .i64 x.s, .int .i64 x.n, .int .i64 x.m, .int .i64 x.r, .int .u64 x.k] 55)) 121 (List.replicate 32 (.int .u8 0)); rw [World.size_alloc] at this; exact this) _
    · have := Arr.new ((w.alloc (.cells #[.int .i64 x.s, .int .i64 x.n, .int .i64 x.m, .int .i64 x.r, .int .u64 x.k] 55)).alloc (.cells (List.replicate 32 (.int .u8 0)).toArray 121)) 121 (List.replicate 32 (.int .u8 0))
      rw [World.size_alloc, World.size_alloc] at this
      exact this
  case round =>
    obtain ⟨i, hi0, hi, rfl, L, hst⟩ := hrel
    have HST := Lib.hid hst
    clear hst
    by_cases hlt : i < 4
    · rcases (by omega : i = 0 ∨ i = 1 ∨ i = 2 ∨ i = 3) with rfl | rfl | rfl | rfl
      · have HST2 : Hid (BySt w wr x L 0) := HST
        go_wp2
        obtain ⟨wo, rfl⟩ : ∃ wo : World, wo = wr := ⟨_, rfl⟩
        clear i0 i1 i2 i3
        go_loopw [20] (fun u wr => ∃ k : Nat, k ≤ 8 ∧ u = .int .i64 k ∧ ∃ L, BySt w wr x L (k)) (fun u _ => 8 - (intOf u).toNat)
        case atStart => exact ⟨0, by omega, rfl, L, HST2.out⟩
        case round =>
          obtain ⟨k, hk, rfl, L2, hst2⟩ := hrel
          have HS := Lib.hid hst2
          clear hst2
          by_cases hk8 : k < 8
          · have hL2 : L2.length = 32 := HS.out.len
            obtain ⟨u, hu⟩ : ∃ u, L2[k]? = some u := ⟨_, List.getElem?_eq_getElem (by omega)⟩
            have c1 := HS.out.r3.cell hu
            have f1 := HS.out.r3.frozen (k)
            clear hu hL2
            have s1 : 0 ≤ 56 - 8 * (k : Int) := by omega
            have s2 : 56 - 8 * (k : Int) < 64 := by omega
            have e0 : k < 32 := by omega
            have e1 : ((k : Int)).toNat = k := by omega
            have HU : Hid ((bV x)[k]? = some (.int .u8 (IntKind.u64.wrap x.s / 2 ^ (56 - 8 * k) % 256))) := Lib.hid (by rw [byte_wrap]; have := bV_at x (i := 0) (by omega) hk8; rwa [show 8 * 0 + k = k by omega] at this)
            go_wp2
            go_roundw
            case rel => exact ⟨k + 1, by omega, by go_num, _, by
              have := HS.out.put e0 HU.out
              exact this⟩
            case measure => simp [intOf]; omega
          · obtain rfl : k = 8 := by omega
            go_wp2
            go_roundw
            case rel => exact ⟨1, by omega, by omega, rfl, L2, HS.out⟩
            case measure => simp [intOf]
      · have HST2 : Hid (BySt w wr x L 8) := HST
        go_wp2
        obtain ⟨wo, rfl⟩ : ∃ wo : World, wo = wr := ⟨_, rfl⟩
        clear i0 i1 i2 i3
        go_loopw [20] (fun u wr => ∃ k : Nat, k ≤ 8 ∧ u = .int .i64 k ∧ ∃ L, BySt w wr x L (8 + k)) (fun u _ => 8 - (intOf u).toNat)
        case atStart => exact ⟨0, by omega, rfl, L, HST2.out⟩
        case round =>
          obtain ⟨k, hk, rfl, L2, hst2⟩ := hrel
          have HS := Lib.hid hst2
          clear hst2
          by_cases hk8 : k < 8
          · have hL2 : L2.length = 32 := HS.out.len
            obtain ⟨u, hu⟩ : ∃ u, L2[8 + k]? = some u := ⟨_, List.getElem?_eq_getElem (by omega)⟩
            have c1 := HS.out.r3.cell hu
            have f1 := HS.out.r3.frozen (8 + k)
            clear hu hL2
            have s1 : 0 ≤ 56 - 8 * (k : Int) := by omega
            have s2 : 56 - 8 * (k : Int) < 64 := by omega
            have e0 : 8 + k < 32 := by omega
            have e1 : (8 + (k : Int)).toNat = 8 + k := by omega
            have HU : Hid ((bV x)[8 + k]? = some (.int .u8 (IntKind.u64.wrap x.n / 2 ^ (56 - 8 * k) % 256))) := Lib.hid (by rw [byte_wrap]; have := bV_at x (i := 1) (by omega) hk8; rwa [show 8 * 1 + k = 8 + k by omega] at this)
            go_wp2
            go_roundw
            case rel => exact ⟨k + 1, by omega, by go_num, _, by
              have := HS.out.put e0 HU.out
              exact this⟩
            case measure => simp [intOf]; omega
          · obtain rfl : k = 8 := by omega
            go_wp2
            go_roundw
            case rel => exact ⟨2, by omega, by omega, rfl, L2, HS.out⟩
            case measure => simp [intOf]
      · have HST2 : Hid (BySt w wr x L 16) := HST
        go_wp2
        obtain ⟨wo, rfl⟩ : ∃ wo : World, wo = wr := ⟨_, rfl⟩
        clear i0 i1 i2 i3
        go_loopw [20] (fun u wr => ∃ k : Nat, k ≤ 8 ∧ u = .int .i64 k ∧ ∃ L, BySt w wr x L (16 + k)) (fun u _ => 8 - (intOf u).toNat)
        case atStart => exact ⟨0, by omega, rfl, L, HST2.out⟩
        case round =>
          obtain ⟨k, hk, rfl, L2, hst2⟩ := hrel
          have HS := Lib.hid hst2
          clear hst2
          by_cases hk8 : k < 8
          · have hL2 : L2.length = 32 := HS.out.len
            obtain ⟨u, hu⟩ : ∃ u, L2[16 + k]? = some u := ⟨_, List.getElem?_eq_getElem (by omega)⟩
            have c1 := HS.out.r3.cell hu
            have f1 := HS.out.r3.frozen (16 + k)
            clear hu hL2
            have s1 : 0 ≤ 56 - 8 * (k : Int) := by omega
            have s2 : 56 - 8 * (k : Int) < 64 := by omega
            have e0 : 16 + k < 32 := by omega
            have e1 : (16 + (k : Int)).toNat = 16 + k := by omega
            have HU : Hid ((bV x)[16 + k]? = some (.int .u8 (IntKind.u64.wrap x.m / 2 ^ (56 - 8 * k) % 256))) := Lib.hid (by rw [byte_wrap]; have := bV_at x (i := 2) (by omega) hk8; rwa [show 8 * 2 + k = 16 + k by omega] at this)
            go_wp2
            go_roundw
            case rel => exact ⟨k + 1, by omega, by go_num, _, by
              have := HS.out.put e0 HU.out
              exact this⟩
            case measure => simp [intOf]; omega
          · obtain rfl : k = 8 := by omega
            go_wp2
            go_roundw
            case rel => exact ⟨3, by omega, by omega, rfl, L2, HS.out⟩
            case measure => simp [intOf]
      · have HST2 : Hid (BySt w wr x L 24) := HST
        go_wp2
        obtain ⟨wo, rfl⟩ : ∃ wo : World, wo = wr := ⟨_, rfl⟩
        clear i0 i1 i2 i3
        go_loopw [20] (fun u wr => ∃ k : Nat, k ≤ 8 ∧ u = .int .i64 k ∧ ∃ L, BySt w wr x L (24 + k)) (fun u _ => 8 - (intOf u).toNat)
        case atStart => exact ⟨0, by omega, rfl, L, HST2.out⟩
        case round =>
          obtain ⟨k, hk, rfl, L2, hst2⟩ := hrel
          have HS := Lib.hid hst2
          clear hst2
          by_cases hk8 : k < 8
          · have hL2 : L2.length = 32 := HS.out.len
            obtain ⟨u, hu⟩ : ∃ u, L2[24 + k]? = some u := ⟨_, List.getElem?_eq_getElem (by omega)⟩
            have c1 := HS.out.r3.cell hu
            have f1 := HS.out.r3.frozen (24 + k)
            clear hu hL2
            have s1 : 0 ≤ 56 - 8 * (k : Int) := by omega
            have s2 : 56 - 8 * (k : Int) < 64 := by omega
            have e0 : 24 + k < 32 := by omega
            have e1 : (24 + (k : Int)).toNat = 24 + k := by omega
            have HU : Hid ((bV x)[24 + k]? = some (.int .u8 (IntKind.u64.wrap x.r / 2 ^ (56 - 8 * k) % 256))) := Lib.hid (by rw [byte_wrap]; have := bV_at x (i := 3) (by omega) hk8; rwa [show 8 * 3 + k = 24 + k by omega] at this)
            go_wp2
            go_roundw
            case rel => exact ⟨k + 1, by omega, by go_num, _, by
              have := HS.out.put e0 HU.out
              exact this⟩
            case measure => simp [intOf]; omega
          · obtain rfl : k = 8 := by omega
            go_wp2
            go_roundw
            case rel => exact ⟨4, by omega, by omega, rfl, L2, HS.out⟩
            case measure => simp [intOf]
    · obtain rfl : i = 4 := by omega
      obtain ⟨Z, hZ, hr2⟩ := HST.out.r2
      obtain rfl : bV x = L := by
        apply List.ext_getElem?
        intro j
        rcases Nat.lt_or_ge j 32 with hj | hj
        · exact (HST.out.right j (by omega)).symm
        · rw [List.getElem?_eq_none (by rw [bV_length]; exact hj), List.getElem?_eq_none (by rw [HST.out.len]; exact hj)]
      have HZ2 := Lib.hid hr2
      have HZL := Lib.hid (show (bV x).length = Z.length by rw [hZ, bV_length])
      have HINF : Hid ((Tryz.prog.info? 121).map (·.size) = some (bV x).length) := Lib.hid (by rw [bV_length]; kernel_rfl)
      have HINF2 : Hid ((Tryz.prog.info? 121).map (·.size) = some (bV x).toArray.size) := Lib.hid (by rw [List.size_toArray, bV_length]; kernel_rfl)
      have HONE : Hid ((bV x).toArray.all (·.oneCell') = true) := Lib.hid (all_oneCell_toArray (fun v hv => by obtain ⟨b, _, rfl⟩ := List.mem_map.1 hv; rfl))
      clear hr2 hZ i0 i1 i2 i3
      go_upto_region 11 with (fail)
      refine wp_region_lit ?_
      refine wpList_load_mid rfl 121 _ rfl (w.heap.size + 1 + 1) 0 rfl (bV x) _ HST.out.r3.range Tryz.underlying121 rfl HINF.out ?_
      simp only [Act.put, List.setIfInBounds_toArray, List.set_cons_zero, List.set_cons_succ]
      refine wpList_store_mid rfl 121 _ _ rfl (w.heap.size + 1) 0 (bV x).toArray rfl rfl (HZ2.out.there HZL.out) HINF2.out HONE.out ?_
      simp only [Act.put]
      refine wpList_nil ?_
      have HA : Hid (Arr (wr.setCells (w.heap.size + 1) 0 (bV x).toArray.toList) (w.heap.size + 1) 121 (bV x)) := Lib.hid (HZ2.out.stored HZL.out)
      have HB : Hid (Below w.heap.size w (wr.setCells (w.heap.size + 1) 0 (bV x).toArray.toList)) := Lib.hid (below_setCells HST.out.bel (by omega) _ _)
      generalize wr.setCells (w.heap.size + 1) 0 (bV x).toArray.toList = wz at HA HB
      go_wp2
      refine bodyPost_ret (v := .agg (bV x).toArray) ?_ rfl ⟨rfl, HB.out⟩
      have hl := run_loadVar_mid (P := Tryz.prog) wz (w.heap.size + 1) 0 121 (bV x) _ HA.out.range Tryz.underlying121 rfl HINF.out
      simp [results, Tryz.results55]
      exact hl
end
/-! ### Wb40 -/
section
open Go.RowKit

theorem bytes_get {x : Rd} {i : Nat} (h : i < 32) : ∃ b, (bytesR x)[i]? = some b ∧ b < 256 ∧ (bV x).toArray[i]? = some (.int .u8 (b : Nat)) := by
  have hl : i < (bytesR x).length := by rw [bytesR_length]; exact h
  refine ⟨_, List.getElem?_eq_getElem hl, bytesR_lt (List.getElem_mem hl), ?_⟩
  simp [bV, hl]

theorem fold_snoc {l : List Nat} {i b x : Nat} (h : l[i]? = some b) : (l.take (i + 1)).foldl stepL x = stepL ((l.take i).foldl stepL x) b := by
  have hl := (List.getElem?_eq_some_iff.1 h).1
  rw [List.take_succ_eq_append_getElem hl, List.foldl_append]
  have : l[i] = b := by have := List.getElem?_eq_getElem hl; rw [h] at this; exact (Option.some.inj this).symm
  rw [this, List.foldl_cons, List.foldl_nil]

theorem step_wrap {s b : Nat} : IntKind.u64.wrap (((s ^^^ b : Nat) : Int) * 1099511628211) = ((stepL s b : Nat) : Int) := by
  rw [IntKind.wrap_u64]
  unfold stepL
  omega

set_option maxHeartbeats 2000000 in
theorem Link_any (s : Nat) (x : Rd) (hs : s < 18446744073709551616) (w : World) : Calls Tryz.prog 25 #[.int .u64 (s : Nat), rdV x] w (Ret (.int .u64 (link s x : Nat)) w) := by
  obtain ⟨V, hV⟩ : ∃ V, link s x = V := ⟨_, rfl⟩
  rw [hV]
  have HV := Lib.hid hV
  clear hV
  go_enter Tryz.func25, Tryz.ntmps25
  go_wp2_with fail
  refine (bytesOf_any x _).mono ?_
  rintro e w1 ⟨rfl, hb⟩
  have HB := Lib.hid (below_step (below_alloc (Below.refl _ _) _) hb)
  clear hb
  go_wp2
  go_loop [5, 11] (fun v i => ∃ k : Nat, k ≤ 32 ∧ i = .int .i64 k ∧ v = .int .u64 (((bytesR x).take k).foldl stepL s : Nat)) (fun _ i => 32 - (intOf i).toNat)
  case atStart => exact ⟨0, by omega, rfl, rfl⟩
  case round =>
    obtain ⟨k, hk, rfl, rfl⟩ := hrel
    have hst : ((bytesR x).take k).foldl stepL s < 18446744073709551616 := fold_lt hs
    by_cases hlt : k < 32
    · obtain ⟨b, hb1, hb2, hb3⟩ := bytes_get (x := x) hlt
      have HSN := Lib.hid (fold_snoc (x := s) hb1)
      obtain ⟨z, hz⟩ : ∃ z, ((bytesR x).take k).foldl stepL s = z := ⟨_, rfl⟩
      rw [hz] at hst HSN ⊢
      have hidx : ∀ w, (Instr.index 121 (.agg (bV x).toArray) (.int .i64 (k : Nat))).run Tryz.prog w = .ok (.int .u8 (b : Nat)) w := fun w => run_index_arr (n := 32) Tryz.underlying121 (by kernel_rfl) (by kernel_rfl) (by kernel_rfl) hlt hb3
      have hxor := u64_xor_nat z b hst (by omega)
      have hcv : IntKind.u64.wrap (b : Int) = (b : Int) := by rw [IntKind.wrap_u64]; omega
      have hmul := @step_wrap z b
      clear hb1 hb3 hz
      go_wp2
      go_round
      case rel => exact ⟨k + 1, by omega, by go_num, by rw [HSN.out]⟩
      case measure => simp [intOf]; omega
    · obtain rfl : k = 32 := by omega
      obtain rfl : ((bytesR x).take 32).foldl stepL s = V := by rw [List.take_of_length_le (by rw [bytesR_length]; omega)]; exact HV.out
      go_wp2
      go_ret
      exact ⟨rfl, HB.out⟩

theorem shl_byte {u i : Nat} (hu : u < 18446744073709551616) (hi : i < 8) : (u * 2 ^ (8 * i) % 18446744073709551616) / 72057594037927936 = (u >>> (56 - 8 * i)) % 256 := by
  rw [Nat.shiftRight_eq_div_pow]
  rcases (by omega : i = 0 ∨ i = 1 ∨ i = 2 ∨ i = 3 ∨ i = 4 ∨ i = 5 ∨ i = 6 ∨ i = 7) with rfl | rfl | rfl | rfl | rfl | rfl | rfl | rfl <;> simp only [Nat.reduceMul, Nat.reducePow, Nat.reduceSub] <;> omega

theorem shl_next {u i : Nat} : (u * 2 ^ (8 * i) % 18446744073709551616) * 256 % 18446744073709551616 = u * 2 ^ (8 * (i + 1)) % 18446744073709551616 := by
  rw [show 2 ^ (8 * (i + 1)) = 2 ^ (8 * i) * 256 by rw [Nat.mul_add, Nat.pow_add], ← Nat.mul_assoc]
  omega

def num8 (x : Nat) (n : Int) : Nat := (bytes8 n).foldl stepL x
theorem num8_lt {x : Nat} {n : Int} (h : x < 18446744073709551616) : num8 x n < 18446744073709551616 := fold_lt h
theorem link_num8 (x : Nat) (y : Rd) : link x y = num8 (num8 (num8 (num8 x y.s) y.n) y.m) y.r := by
  unfold link bytesR num8
  rw [List.foldl_append, List.foldl_append, List.foldl_append]

theorem bytes8_get {n : Int} {i : Nat} (h : i < 8) : (bytes8 n)[i]? = some (byteAt n i) := by simp [bytes8, h]
theorem bytes8_all (n : Int) : (bytes8 n).take 8 = bytes8 n := List.take_of_length_le (by simp [bytes8])

end
/-! ### PlainB40 -/
section
theorem right_of_chk {seed : Nat} {l : List Rd} (h : chk seed l = -1) {i : Nat} (hi : i < l.length) : rightAt seed l i = true := by
  rcases chk_is seed l with ⟨_, h1⟩ | ⟨k, _, e, _⟩
  · exact h1 i hi
  · rw [h] at e; omega

theorem chk_seed {seed other : Nat} {l : List Rd} (hs : seed < 18446744073709551616) (ho : other < 18446744073709551616) (h : chk seed l = -1) (hl : 0 < l.length) (hne : seed ≠ other) : chk other l = 0 := by
  refine (isChk_eq (.inr ⟨0, hl, rfl, ?_, fun i hi => absurd hi (by omega)⟩)).symm
  have hr := right_of_chk h hl
  cases hq : rightAt other l 0 with
  | false => rfl
  | true =>
    exfalso
    have e : l[0]? = some l[0] := List.getElem?_eq_getElem hl
    simp only [rightAt, e, Bool.and_eq_true, decide_eq_true_eq] at hr hq
    exact hne (link_inj hs ho (hr.2.symm.trans hq.2))
end
/-! ### PlainC40 -/
section
/-! ### Beginnings -/
theorem rightAt_take {seed : Nat} {l : List Rd} {n i : Nat} (hi : i < n) : rightAt seed (l.take n) i = rightAt seed l i := by
  have h1 : ∀ j, j ≤ i → (l.take n)[j]? = l[j]? := fun j hj => by rw [List.getElem?_take_of_lt (by omega)]
  have hp : prevAt (l.take n) i = prevAt l i := by
    unfold prevAt
    split
    · rfl
    · exact h1 (i - 1) (by omega)
  unfold rightAt okAt stAt
  rw [hp, h1 i (Nat.le_refl _)]

theorem chk_take_in {seed : Nat} {l : List Rd} {n : Nat} (hn : n ≤ l.length) (h0 : 0 ≤ chk seed l) (h1 : chk seed l < (n : Int)) : chk seed (l.take n) = chk seed l := by
  rcases chk_is seed l with ⟨e, _⟩ | ⟨k, hk, e, hf, hall⟩
  · omega
  · rw [e]
    refine (isChk_eq (.inr ⟨k, by rw [List.length_take]; omega, rfl, ?_, fun i hi => ?_⟩)).symm
    · rw [rightAt_take (by omega)]; exact hf
    · rw [rightAt_take (by omega)]; exact hall i hi

theorem chk_take_out {seed : Nat} {l : List Rd} {n : Nat} (hn : n ≤ l.length) (h : chk seed l < 0 ∨ (n : Int) ≤ chk seed l) : chk seed (l.take n) = -1 := by
  refine (isChk_eq (.inl ⟨rfl, fun i hi => ?_⟩)).symm
  rw [List.length_take] at hi
  rw [rightAt_take (by omega)]
  rcases chk_is seed l with ⟨e, hall⟩ | ⟨k, hk, e, hf, hall⟩
  · exact hall i (by omega)
  · exact hall i (by omega)

/-! ### One byte -/
theorem byteAt_xor {n n' : Int} {k y : Nat} (hk : k < 8) (hb : y < 256) (h : u64 n' = u64 n ^^^ (y * 2 ^ (8 * k))) {j : Nat} (hj : j < 8) :
    byteAt n' j = if j = 7 - k then byteAt n j ^^^ y else byteAt n j := by
  unfold byteAt
  rw [h, ← Nat.shiftLeft_eq, show 256 = 2 ^ 8 from rfl]
  have hb' : y < 2 ^ 8 := hb
  have hy : ∀ m, 8 ≤ m → y.testBit m = false := fun m hm => Nat.testBit_lt_two_pow (Nat.lt_of_lt_of_le hb' (Nat.pow_le_pow_right (by decide) hm))
  split
  · rename_i e
    apply Nat.eq_of_testBit_eq
    intro i
    simp only [Nat.testBit_mod_two_pow, Nat.testBit_shiftRight, Nat.testBit_xor, Nat.testBit_shiftLeft]
    have e1 : 56 - 8 * j = 8 * k := by omega
    rw [e1]
    rcases Nat.lt_or_ge i 8 with hi | hi
    · simp [hi]
    · simp [Nat.not_lt.2 hi, hy i hi]
  · rename_i e
    apply Nat.eq_of_testBit_eq
    intro i
    simp only [Nat.testBit_mod_two_pow, Nat.testBit_shiftRight, Nat.testBit_xor, Nat.testBit_shiftLeft]
    rcases Nat.lt_or_ge i 8 with hi | hi
    · have : (decide (56 - 8 * j + i ≥ 8 * k) && y.testBit (56 - 8 * j + i - 8 * k)) = false := by
        rcases Nat.lt_or_ge (56 - 8 * j + i) (8 * k) with h1 | h1
        · simp [Nat.not_le.2 h1]
        · rw [hy _ (by omega), Bool.and_false]
      rw [this, Bool.xor_false]
    · simp [Nat.not_lt.2 hi]

theorem bytes8_xor {n n' : Int} {k y : Nat} (hk : k < 8) (hb : y < 256) (h : u64 n' = u64 n ^^^ (y * 2 ^ (8 * k))) : bytes8 n' = (bytes8 n).set (7 - k) (byteAt n (7 - k) ^^^ y) := by
  apply List.ext_getElem
  · simp [bytes8]
  · intro j h1 h2
    have hj : j < 8 := by simpa [bytes8] using h1
    rw [List.getElem_set]
    simp only [bytes8, List.getElem_map, List.getElem_range]
    rw [byteAt_xor hk hb h hj]
    by_cases e : j = 7 - k
    · subst e; simp
    · rw [if_neg e, if_neg (fun e' => e e'.symm)]

theorem xor_self_ne {b y : Nat} (h : y ≠ 0) : b ^^^ y ≠ b := fun e => h (by
  have : b ^^^ (b ^^^ y) = b ^^^ b := by rw [e]
  rwa [← Nat.xor_assoc, Nat.xor_self, Nat.zero_xor] at this)

theorem fold_set {L : List Nat} {p c b : Nat} (hL : ∀ b ∈ L, b < 256) (hp : L[p]? = some b) (hc : c < 256) (hne : c ≠ b) {x : Nat} (hx : x < 18446744073709551616) : (L.set p c).foldl stepL x ≠ L.foldl stepL x := by
  obtain ⟨hlt, rfl⟩ := List.getElem?_eq_some_iff.1 hp
  have e1 : L = L.take p ++ L[p] :: L.drop (p + 1) := by rw [← List.drop_eq_getElem_cons hlt, List.take_append_drop]
  have e2 : L.set p c = L.take p ++ c :: L.drop (p + 1) := by rw [List.set_eq_take_append_cons_drop, if_pos hlt]
  intro h
  refine fold_one (l := L.take p) (l' := L.drop (p + 1)) (fun b hb => hL b (List.mem_of_mem_drop hb)) hc (hL _ (List.getElem_mem hlt)) hne hx ?_
  rw [← e2, ← e1]
  exact h

theorem bytes8_lt {n : Int} {b : Nat} (h : b ∈ bytes8 n) : b < 256 := by
  simp only [bytes8, List.mem_map] at h
  obtain ⟨j, _, rfl⟩ := h
  exact byteAt_lt _ _

/-- One byte of a number is changed: what follows of it is another state. -/
theorem num_ne {n n' : Int} {k y s : Nat} (hk : k < 8) (hb : y < 256) (hy : y ≠ 0) (h : u64 n' = u64 n ^^^ (y * 2 ^ (8 * k))) (hs : s < 18446744073709551616) : (bytes8 n').foldl stepL s ≠ (bytes8 n).foldl stepL s := by
  rw [bytes8_xor hk hb h]
  exact fold_set (b := byteAt n (7 - k)) (fun _ => bytes8_lt) (by rw [bytes8, List.getElem?_map, List.getElem?_range (by omega)]; rfl) (Nat.xor_lt_two_pow (n := 8) (byteAt_lt _ _) hb) (xor_self_ne hy) hs
theorem num_eq {n n' : Int} (h : u64 n' = u64 n) (s : Nat) : (bytes8 n').foldl stepL s = (bytes8 n).foldl stepL s := by
  have : bytes8 n' = bytes8 n := by
    unfold bytes8
    exact List.map_congr_left (fun j _ => by unfold byteAt; rw [h])
  rw [this]
theorem num_inj {n : Int} {s t : Nat} (hs : s < 18446744073709551616) (ht : t < 18446744073709551616) (h : (bytes8 n).foldl stepL s = (bytes8 n).foldl stepL t) : s = t := fold_inj (fun _ => bytes8_lt) hs ht h

theorem link_folds (x : Nat) (y : Rd) : link x y = (bytes8 y.r).foldl stepL ((bytes8 y.m).foldl stepL ((bytes8 y.n).foldl stepL ((bytes8 y.s).foldl stepL x))) := by
  unfold link bytesR
  rw [List.foldl_append, List.foldl_append, List.foldl_append]

/-- x' is x with one of its numbers changed in one byte, all else but the link alike. -/
def NumOff (x x' : Rd) (k y : Nat) : Prop :=
  (u64 x'.s = u64 x.s ^^^ (y * 2 ^ (8 * k)) ∧ x'.n = x.n ∧ x'.m = x.m ∧ x'.r = x.r) ∨ (x'.s = x.s ∧ u64 x'.n = u64 x.n ^^^ (y * 2 ^ (8 * k)) ∧ x'.m = x.m ∧ x'.r = x.r) ∨
  (x'.s = x.s ∧ x'.n = x.n ∧ u64 x'.m = u64 x.m ^^^ (y * 2 ^ (8 * k)) ∧ x'.r = x.r) ∨ (x'.s = x.s ∧ x'.n = x.n ∧ x'.m = x.m ∧ u64 x'.r = u64 x.r ^^^ (y * 2 ^ (8 * k)))

theorem link_off {x x' : Rd} {k y s : Nat} (hk : k < 8) (hb : y < 256) (h : NumOff x x' k y) (hs : s < 18446744073709551616) : link s x' = link s x ↔ y = 0 := by
  by_cases hy : y = 0
  · subst hy
    simp only [iff_true]
    rw [link_folds, link_folds]
    rcases h with ⟨a, b, c, d⟩ | ⟨a, b, c, d⟩ | ⟨a, b, c, d⟩ | ⟨a, b, c, d⟩
    · rw [b, c, d, num_eq (n' := x'.s) (n := x.s) (by simpa using a)]
    · rw [a, c, d, num_eq (n' := x'.n) (n := x.n) (by simpa using b)]
    · rw [a, b, d, num_eq (n' := x'.m) (n := x.m) (by simpa using c)]
    · rw [a, b, c, num_eq (n' := x'.r) (n := x.r) (by simpa using d)]
  · simp only [hy, iff_false]
    rw [link_folds, link_folds]
    rcases h with ⟨a, b, c, d⟩ | ⟨a, b, c, d⟩ | ⟨a, b, c, d⟩ | ⟨a, b, c, d⟩
    · rw [b, c, d]
      intro e
      exact num_ne hk hb hy a hs (num_inj (fold_lt hs) (fold_lt hs) (num_inj (fold_lt (fold_lt hs)) (fold_lt (fold_lt hs)) (num_inj (fold_lt (fold_lt (fold_lt hs))) (fold_lt (fold_lt (fold_lt hs))) e)))
    · rw [a, c, d]
      intro e
      exact num_ne hk hb hy b (fold_lt hs) (num_inj (fold_lt (fold_lt hs)) (fold_lt (fold_lt hs)) (num_inj (fold_lt (fold_lt (fold_lt hs))) (fold_lt (fold_lt (fold_lt hs))) e))
    · rw [a, b, d]
      intro e
      exact num_ne hk hb hy c (fold_lt (fold_lt hs)) (num_inj (fold_lt (fold_lt (fold_lt hs))) (fold_lt (fold_lt (fold_lt hs))) e)
    · rw [a, b, c]
      exact num_ne hk hb hy d (fold_lt (fold_lt (fold_lt hs)))

theorem link_of_nums {x x' : Rd} (a : x'.s = x.s) (b : x'.n = x.n) (c : x'.m = x.m) (d : x'.r = x.r) (s : Nat) : link s x' = link s x := by
  rw [link_folds, link_folds, a, b, c, d]

/-! ### One reading of a chain that is right -/
theorem chk_off {seed : Nat} {l : List Rd} {p : Nat} {x' : Rd} (hp : p < l.length) (hc : chk seed l = -1)
    (h : ∀ s, s = stAt seed l p → ¬ (link s x' = link s l[p] ↔ x'.k = l[p].k)) : chk seed (l.set p x') = (p : Int) := by
  refine (isChk_eq (.inr ⟨p, by rw [List.length_set]; exact hp, rfl, ?_, fun i hi => ?_⟩)).symm
  · have hr := right_of_chk hc hp
    have e0 : l[p]? = some l[p] := List.getElem?_eq_getElem hp
    simp only [rightAt, e0, Bool.and_eq_true, decide_eq_true_eq] at hr
    cases hq : rightAt seed (l.set p x') p with
    | false => rfl
    | true =>
      exfalso
      have e : (l.set p x')[p]? = some x' := by simp [hp]
      have hst : stAt seed (l.set p x') p = stAt seed l p := by
        have hpv : prevAt (l.set p x') p = prevAt l p := by
          unfold prevAt
          split
          · rfl
          · rw [List.getElem?_set_ne (by omega)]
        unfold stAt
        rw [hpv]
      simp only [rightAt, e, Bool.and_eq_true, decide_eq_true_eq, hst] at hq
      refine h _ rfl ⟨fun e1 => ?_, fun e1 => ?_⟩
      · rw [hq.2, e1, ← hr.2]
      · rw [← hq.2, e1, hr.2]
  · have h1 : ∀ j, j ≤ i → (l.set p x')[j]? = l[j]? := fun j hj => by rw [List.getElem?_set_ne (by omega)]
    have hpv : prevAt (l.set p x') i = prevAt l i := by
      unfold prevAt
      split
      · rfl
      · exact h1 (i - 1) (by omega)
    have := right_of_chk hc (i := i) (by omega)
    unfold rightAt okAt stAt at this ⊢
    rw [hpv, h1 i (Nat.le_refl _)]
    exact this
end
/-! ### Wc40 -/
section
open Go.RowKit

/-- A reading lies at an address. -/
def RdAt (w : World) (b q : Nat) (x : Rd) : Prop := w.cell? ⟨b, q, none⟩ = some (.int .i64 x.s) ∧ w.cell? ⟨b, q + 1, none⟩ = some (.int .i64 x.n) ∧ w.cell? ⟨b, q + 2, none⟩ = some (.int .i64 x.m) ∧ w.cell? ⟨b, q + 3, none⟩ = some (.int .i64 x.r) ∧ w.cell? ⟨b, q + 4, none⟩ = some (.int .u64 x.k)
/-- The cells of a slice of readings. -/
def Rds (w : World) (o : Option Addr) (l : List Rd) : Prop := ∀ i, i < l.length → ∃ b off, o = some ⟨b, off, none⟩ ∧ RdAt w b (off + i * 5) (getR l i)

theorem RdAt.later {w w' : World} {b q : Nat} {x : Rd} (h : RdAt w b q x) (hb : Below w.heap.size w w') : RdAt w' b q x :=
  ⟨cell_kept hb h.1, cell_kept hb h.2.1, cell_kept hb h.2.2.1, cell_kept hb h.2.2.2.1, cell_kept hb h.2.2.2.2⟩
theorem Rds.later {w w' : World} {o : Option Addr} {l : List Rd} (h : Rds w o l) (hb : Below w.heap.size w w') : Rds w' o l := fun i hi => by
  obtain ⟨b, off, ho, hc⟩ := h i hi
  exact ⟨b, off, ho, hc.later hb⟩
theorem Rds.nil {w : World} {o : Option Addr} : Rds w o [] := fun _ hi => absurd hi (Nat.not_lt_zero _)

/-- A reading in a block of its own. -/
def RdB (w : World) (b : Nat) (x : Rd) : Prop := Blk w b 55 #[.int .i64 x.s, .int .i64 x.n, .int .i64 x.m, .int .i64 x.r, .int .u64 x.k]
theorem RdB.cells {w : World} {b : Nat} {x : Rd} (h : RdB w b x) : w.cell? ⟨b, 0, none⟩ = some (.int .i64 x.s) ∧ w.cell? ⟨b, 1, none⟩ = some (.int .i64 x.n) ∧ w.cell? ⟨b, 2, none⟩ = some (.int .i64 x.m) ∧ w.cell? ⟨b, 3, none⟩ = some (.int .i64 x.r) ∧ w.cell? ⟨b, 4, none⟩ = some (.int .u64 x.k) :=
  ⟨h.cell 0, h.cell 1, h.cell 2, h.cell 3, h.cell 4⟩
theorem RdB.later {w w' : World} {b : Nat} {x : Rd} (h : RdB w b x) (hb : Below w.heap.size w w') : RdB w' b x := Blk.later h hb
theorem RdB.new (w : World) (x : Rd) : RdB (w.alloc (.cells #[.int .i64 x.s, .int .i64 x.n, .int .i64 x.m, .int .i64 x.r, .int .u64 x.k] 55)) w.heap.size x := Blk.new ..

def flw (b x : Rd) : Bool := !oldR b x && !laterR b x

theorem okAt_get {l : List Rd} {i : Nat} (hi : i < l.length) : okAt l i = okN (prevAt l i) i (getR l i) := by
  unfold okAt
  rw [getR_some hi]
theorem prevAt_zero (l : List Rd) : prevAt l 0 = none := rfl
theorem prevAt_pos {l : List Rd} {i : Nat} (h0 : 0 < i) (hi : i < l.length) : prevAt l i = some (getR l (i - 1)) := by
  unfold prevAt
  rw [if_neg (by omega), getR_some (by omega)]

end
/-! ### Wd40 -/
section
open Go.RowKit

theorem stAt_zero (seed : Nat) (l : List Rd) : stAt seed l 0 = seed := rfl
theorem stAt_succ (seed : Nat) {l : List Rd} {k : Nat} (hk : k < l.length) : stAt seed l (k + 1) = (getR l k).k := by
  unfold stAt prevAt
  rw [if_neg (by omega), Nat.add_sub_cancel, getR_some hk]
theorem stAt_lt {seed : Nat} (hs : seed < 18446744073709551616) (l : List Rd) (k : Nat) : stAt seed l k < 18446744073709551616 := by
  unfold stAt
  split
  · exact hs
  · rename_i b _
    exact b.hk
theorem rightAt_get {seed : Nat} {l : List Rd} {k : Nat} (hk : k < l.length) : rightAt seed l k = (okAt l k && decide ((getR l k).k = link (stAt seed l k) (getR l k))) := by
  unfold rightAt
  rw [getR_some hk]

theorem Rd.ne_parts {x y : Rd} (h : x ≠ y) : ¬ x.s = y.s ∨ (x.s = y.s ∧ ¬ x.n = y.n) ∨ (x.s = y.s ∧ x.n = y.n ∧ ¬ x.m = y.m) ∨ (x.s = y.s ∧ x.n = y.n ∧ x.m = y.m ∧ ¬ x.r = y.r) ∨ (x.s = y.s ∧ x.n = y.n ∧ x.m = y.m ∧ x.r = y.r ∧ ¬ x.k = y.k) := by
  obtain ⟨s, n, m, r, k, hk⟩ := x
  obtain ⟨s', n', m', r', k', hk'⟩ := y
  by_cases h1 : s = s' <;> by_cases h2 : n = n' <;> by_cases h3 : m = m' <;> by_cases h4 : r = r' <;> by_cases h5 : k = k' <;> simp_all

theorem run_neq_aux (s n m r k s' n' m' r' k' : Int) (h : ¬ s = s' ∨ (s = s' ∧ ¬ n = n') ∨ (s = s' ∧ n = n' ∧ ¬ m = m') ∨ (s = s' ∧ n = n' ∧ m = m' ∧ ¬ r = r') ∨ (s = s' ∧ n = n' ∧ m = m' ∧ r = r' ∧ ¬ k = k')) (w : World) :
    (binOp .neq 55 (.agg #[.int .i64 s, .int .i64 n, .int .i64 m, .int .i64 r, .int .u64 k]) (.agg #[.int .i64 s', .int .i64 n', .int .i64 m', .int .i64 r', .int .u64 k'])).run Tryz.prog w = .ok (.bool true) w := by
  rcases h with h | ⟨rfl, h⟩ | ⟨rfl, rfl, h⟩ | ⟨rfl, rfl, rfl, h⟩ | ⟨rfl, rfl, rfl, rfl, h⟩
  all_goals (go_simp; try simp [h])

theorem run_neq_rd (x y : Rd) (h : x ≠ y) (w : World) : (binOp .neq 55 (rdV x) (rdV y)).run Tryz.prog w = .ok (.bool true) w :=
  run_neq_aux _ _ _ _ _ _ _ _ _ _ (by have := Rd.ne_parts h; omega) w
end
/-! ### We40 -/
section
open Go.RowKit

theorem eq_of_getR {la lb : List Rd} (hl : la.length = lb.length) (h : ∀ j, j < la.length → getR la j = getR lb j) : la = lb := by
  apply List.ext_getElem hl
  intro j h1 h2
  rw [← getR_eq h1, ← getR_eq h2]
  exact h j h1

/-- What Energy returns. -/
def enOk (l : List Rd) (a b : Int) : Bool := ordered l && decide (1 ≤ a ∧ a ≤ b ∧ b ≤ (l.length : Int))
def enN (l : List Rd) (a b : Int) : Int := if enOk l a b then energy l a.toNat (b - a).toNat else 0
def enV (l : List Rd) (a b : Int) : Value := .tuple #[.int .i64 (enN l a b), .int .i64 (if enOk l a b then 0 else 1)]

theorem getR_range {l : List Rd} (h : ordered l = true) {i : Nat} (hi : i < l.length) : 0 ≤ (getR l i).r ∧ (getR l i).r ≤ 1000000000 := by
  obtain ⟨x, hx, hok⟩ := okAt_parts (ordered_iff.1 h i hi)
  have ex : getR l i = x := by rw [getR_some hi] at hx; exact Option.some.inj hx
  rw [ex]
  exact (validR_iff.1 (okN_valid hok).1).2.2.2

end
/-! ### Wf40 -/
section
open Go.RowKit Go.Shelf
attribute [local go_sem] Oper.semAt_some

def enum (l : List Rd) (k : Nat) : List (Int × Rd) := (List.range k).map (fun i : Nat => ((i : Int), getR l i))
theorem enum_zero (l : List Rd) : enum l 0 = [] := rfl
theorem enum_succ (l : List Rd) (k : Nat) : enum l (k + 1) = enum l k ++ [((k : Int), getR l k)] := by simp [enum, List.range_succ]
theorem enum_length (l : List Rd) (k : Nat) : (enum l k).length = k := by simp [enum]

@[reducible] def encs (p : Int × Rd) : Array Value := #[.int .i64 p.1, rdV p.2]

/-- What a round keeps: what lay below n₀, and the box of the list. -/
def Kpt (n₀ q : Nat) (W W' : World) : Prop := Below n₀ W W' ∧ W'.heap[q]? = W.heap[q]?
theorem Kpt.trans {n₀ q : Nat} {A B C : World} (h : Kpt n₀ q A B) (k : Kpt n₀ q B C) : Kpt n₀ q A C := ⟨h.1.trans k.1, k.2.trans h.2⟩

def Sdone (l : List Rd) (xs : List (Int × Rd)) : Prop := ∃ k, k ≤ l.length ∧ xs = enum l k ∧ (∀ i, i < k → okAt l i = true) ∧ (k = l.length ∨ okAt l k = false)
def Sstop (l : List Rd) (pre : List (Int × Rd)) : Prop := ∃ k, k < l.length ∧ pre = enum l (k + 1) ∧ (∀ i, i ≤ k → okAt l i = true)

theorem Rds.low {w w' : World} {o : Option Addr} {l : List Rd} {n₀ : Nat} (h : Rds w o l) (hlow : ∀ b off, o = some ⟨b, off, none⟩ → 0 < l.length → b < n₀) (hb : Below n₀ w w') : Rds w' o l := fun i hi => by
  obtain ⟨b, off, ho, hc⟩ := h i hi
  have hlt := hlow b off ho (by omega)
  exact ⟨b, off, ho, (hb.cell (p := ⟨b, _, none⟩) hlt).trans hc.1, (hb.cell (p := ⟨b, _, none⟩) hlt).trans hc.2.1, (hb.cell (p := ⟨b, _, none⟩) hlt).trans hc.2.2.1, (hb.cell (p := ⟨b, _, none⟩) hlt).trans hc.2.2.2.1, (hb.cell (p := ⟨b, _, none⟩) hlt).trans hc.2.2.2.2⟩
theorem Rds.lt {w : World} {o : Option Addr} {l : List Rd} (h : Rds w o l) : ∀ b off, o = some ⟨b, off, none⟩ → 0 < l.length → b < w.heap.size := fun b off ho hl => by
  obtain ⟨b', off', ho', hc⟩ := h 0 hl
  rw [ho] at ho'
  injection ho' with ho'
  injection ho' with h1 h2
  subst h1
  exact cell_lt hc.1

theorem grownNone {W W' : World} (h : Below W.heap.size W W') : W.grownBy W' none := ⟨h.os, h.tape, h.output, h.size, fun k hk _ => h.block k hk⟩

/-- The state at the head of a round of the iterator. -/
structure ItSt (W0 wr : World) (q : Nat) (o : Option Addr) (cap : Nat) (l : List Rd) (k : Nat) (J : List (Int × Rd) → World → Prop) : Prop where
  ok : ∀ j, j < k → okAt l j = true
  j : J (enum l k) wr
  box : Blk wr q 36 #[.slice o l.length cap]
  rds : Rds wr o l
  size : W0.heap.size ≤ wr.heap.size

theorem ItSt.later {W0 wr w' : World} {q : Nat} {o : Option Addr} {cap : Nat} {l : List Rd} {k : Nat} {J : List (Int × Rd) → World → Prop} (h : ItSt W0 wr q o cap l k J) (hJ : AbidesFrom W0.heap.size J) (hb : Below wr.heap.size wr w') : ItSt W0 w' q o cap l k J :=
  ⟨h.ok, hJ _ _ _ none h.j (grownNone hb) (fun r e => by cases e), h.box.later hb, h.rds.later hb, Nat.le_trans h.size hb.size⟩

set_option maxRecDepth 100000 in
set_option maxHeartbeats 8000000 in
theorem inOrder1_in (n lp q n₀ : Nat) (o : Option Addr) (cap : Nat) (l : List Rd) (J Jx : List (Int × Rd) → World → Prop) (hl : l.length ≤ 9223372036854775807) (hlow : ∀ b off, o = some ⟨b, off, none⟩ → 0 < l.length → b < n₀)
    (hY : ∀ pre x W, J pre W → pre.length < l.length → YieldAt Fence.wide (n - 1) Tryz.prog lp (encs x) W fun e W' => (e = .returned (.bool true) ∧ J (pre ++ [x]) W' ∧ Kpt n₀ q W W') ∨ (e = .returned (.bool false) ∧ Jx (pre ++ [x]) W'))
    (W : World) (hJ : AbidesFrom W.heap.size J) (hJx : AbidesFrom W.heap.size Jx) (hq : Blk W q 36 #[.slice o l.length cap]) (hr : Rds W o l) (h0 : J [] W) :
    CallsIn Fence.wide n Tryz.prog 54 #[.func (.yield lp) #[] #[], .pointer (some ⟨q, 0, none⟩)] W fun e W' => (∃ v, e = .returned v) ∧ ((∃ xs, Sdone l xs ∧ J xs W') ∨ (∃ pre, Sstop l pre ∧ Jx pre W')) := by
  have HS0 : Hid (ItSt W W q o cap l 0 J) := Lib.hid ⟨fun j hj => absurd hj (by omega), h0, hq, hr, Nat.le_refl _⟩
  have HY := Lib.hid hY
  have HJ := Lib.hid hJ
  have HJX := Lib.hid hJx
  have HLOW := Lib.hid hlow
  have c0 := hq.cell 0
  simp at c0
  clear hY hJ hJx hq hr h0 hlow
  refine callsIn_of_wp Tryz.func54 rfl trivial ?_ rfl
  simp only [Tryz.ntmps54, List.size_toArray, List.length_cons, List.length_nil, Nat.reduceAdd, Nat.reduceSub, Array.replicate_succ, Array.replicate_zero, List.push_toArray, List.append_toArray, List.nil_append, List.cons_append]
  refine wpIn_wide.2 (wp_scope_straight ((wpIn_wide (n := n)).1 ?_))
  refine wpIn_seq (wpIn_label ?_)
  simp only [Exit.then]
  gi_wp2
  clear c0
  gi_loopw [7] (fun i wr => ∃ k : Nat, k ≤ l.length ∧ i = .int .i64 k ∧ ItSt W wr q o cap l k J) (fun i _ => l.length - (intOf i).toNat)
  case atStart => exact ⟨0, Nat.zero_le _, rfl, HS0.out⟩
  case round =>
    obtain ⟨k, hk, rfl, hst⟩ := hrel
    have HST := Lib.hid hst
    clear hst HS0
    by_cases hlt : k < l.length
    · obtain ⟨b, off, hbo, hx⟩ := HST.out.rds k hlt
      have HOK := Lib.hid (okAt_get hlt)
      obtain ⟨x, hxe⟩ : ∃ x, getR l k = x := ⟨_, rfl⟩
      rw [hxe] at hx HOK
      obtain ⟨d0, d1, d2, d3, d4⟩ := hx
      have HXE := Lib.hid hxe
      have HBO := Lib.hid hbo
      clear hxe
      subst hbo
      have y1 : (0 : Int) ≤ (k : Int) := by omega
      have y2 : (k : Int) < (l.length : Int) := by omega
      have HRB := Lib.hid (RdB.new wr x)
      gi_wp2_with fail
      refine inCall (valid_any x _) ?_
      rintro e w1 ⟨rfl, hb⟩
      replace HST := Lib.hid ((HST.out.later HJ.out (below_alloc (Below.refl _ _) _)).later HJ.out hb)
      replace HRB := Lib.hid (HRB.out.later hb)
      clear hb d0 d1 d2 d3 d4
      obtain ⟨v, hv⟩ : ∃ v, validR x = v := ⟨_, rfl⟩
      rw [hv]
      unfold okN at HOK
      rw [hv] at HOK
      clear hv
      have hstop : okAt l k = false → ∀ w' : World, ItSt W w' q (some ⟨b, off, none⟩) cap l k J → ((∃ v, Ending.returned (.tuple #[]) = .returned v) ∧ ((∃ xs, Sdone l xs ∧ J xs w') ∨ (∃ pre, Sstop l pre ∧ Jx pre w'))) :=
        fun hno w' h => ⟨⟨_, rfl⟩, .inl ⟨_, ⟨k, hk, rfl, h.ok, .inr hno⟩, h.j⟩⟩
      have HSTOP := Lib.hid hstop
      clear hstop
      obtain ⟨c0, c1, c2, c3, c4⟩ := HRB.out.cells
      cases v with
      | false =>
        gi_wp2
        simp only [Exit.noGoto_normal]
        go_end0
        exact HSTOP.out (by rw [HOK.out]; simp) _ HST.out
      | true =>
        by_cases hn : x.n = (k : Int) + 1
        · have hnb : (x.n == (k : Int) + 1) = true := by simpa using hn
          have e1 : IntKind.i64.wrap ((k : Int) + 1) = (k : Int) + 1 := IntWalk.i64_in _ (by omega)
          have HN := Lib.hid hn
          clear hn

          gi_wp2
          refine wpIn_wide.2 ?_
          by_cases h0 : k = 0
          · have h0b : decide (0 < k) = false := by simp; omega
            have HYES : Hid (okAt l k = true) := Lib.hid (by rw [HOK.out]; simp [HN.out, prevAt, h0])
            clear h0
            refine wp_region_B 21 (fun w'' => Below w1.heap.size w1 w'') mixed (by kernel_rfl) (below_closed w1) (Below.refl _ _).drew ?_
            simp only [List.take_succ_cons, List.take_zero, List.drop_succ_cons, List.drop_zero]
            intro KR hR
            have HR := Lib.hid hR
            clear hR
            have HCC := Lib.hid (show ∀ w'', Below w1.heap.size w1 w'' → w''.cell? ⟨wr.heap.size, 0, none⟩ = some (.int .i64 x.s) ∧ w''.cell? ⟨wr.heap.size, 1, none⟩ = some (.int .i64 x.n) ∧ w''.cell? ⟨wr.heap.size, 2, none⟩ = some (.int .i64 x.m) ∧ w''.cell? ⟨wr.heap.size, 3, none⟩ = some (.int .i64 x.r) ∧ w''.cell? ⟨wr.heap.size, 4, none⟩ = some (.int .u64 x.k) from fun w'' hw => ⟨(HRB.out.later hw).cells.1, (HRB.out.later hw).cells.2.1, (HRB.out.later hw).cells.2.2.1, (HRB.out.later hw).cells.2.2.2.1, (HRB.out.later hw).cells.2.2.2.2⟩)
            repeat (first
              | ((with_reducible refine wpB_move ?_ ?_); exact rfl; simp only [Act.put, List.setIfInBounds_toArray, List.set_cons_zero, List.set_cons_succ])
              | ((with_reducible refine wpB_skip ?_ ?_); exact rfl; simp only [Act.put, List.setIfInBounds_toArray, List.set_cons_zero, List.set_cons_succ])
              | (apply wpB_val rfl
                 · (intro w' hw'; obtain ⟨c0, c1, c2, c3, c4⟩ := HCC.out w' hw'; go_simp; with_reducible rfl)
                 simp only [Act.put, List.setIfInBounds_toArray, List.set_cons_zero, List.set_cons_succ]))
            refine wpB_nil (HR.out _ (fun w2 hw2 => ?_))
            clear HR HCC
            replace HST := Lib.hid (HST.out.later HJ.out hw2)
            replace HRB := Lib.hid (HRB.out.later hw2)
            clear hw2 c0 c1 c2 c3 c4
            refine wpList_nil ?_
            obtain ⟨fn, tmps, assign, body, hy, hR⟩ := HY.out (enum l k) ((k : Int), x) w2 HST.out.j (by rw [enum_length]; exact hlt)
            dsimp only [encs] at hy
            have HSN : Hid (enum l (k + 1) = enum l k ++ [((k : Int), x)]) := Lib.hid (by rw [enum_succ, HXE.out])
            have HRR := Lib.hid hR
            clear hR
            obtain ⟨c0, c1, c2, c3, c4⟩ := HRB.out.cells
            gi_wp2
            refine ⟨fun hd => by simp [Fence.wide] at hd, HRR.out.mono ?_⟩
            rintro e W3 (⟨rfl, hJ3, hk3⟩ | ⟨rfl, hJx3⟩)
            · have HS3 : Hid (ItSt W W3 q (some ⟨b, off, none⟩) cap l (k + 1) J) := Lib.hid ⟨fun j hj => by
                  rcases Nat.lt_or_eq_of_le (Nat.le_of_lt_succ hj) with h | rfl
                  · exact HST.out.ok j h
                  · exact HYES.out, by rw [HSN.out]; exact hJ3, hk3.2.trans HST.out.box, HST.out.rds.low HLOW.out hk3.1, Nat.le_trans HST.out.size hk3.1.size⟩
              clear hJ3 hk3 hy HRR c0 c1 c2 c3 c4
              gi_wp2
              go_roundw
              case rel => exact ⟨k + 1, by omega, by go_num, HS3.out⟩
              case measure => simp [intOf]; omega
            · have HX3 : Hid (Jx (enum l (k + 1)) W3) := Lib.hid (by rw [HSN.out]; exact hJx3)
              clear hJx3 hy HRR c0 c1 c2 c3 c4
              gi_wp2
              (try simp only [Exit.noGoto_ret])
              refine bodyPost_ret (results_none rfl _ _ _) rfl ?_
              exact ⟨⟨_, rfl⟩, .inr ⟨_, ⟨k, hlt, rfl, fun i hi => by rcases Nat.lt_or_eq_of_le hi with h | rfl; exact HST.out.ok i h; exact HYES.out⟩, HX3.out⟩⟩
          · have h0b : decide (0 < k) = true := by simp; omega
            obtain ⟨b2, off2, hbo2, hy1⟩ := HST.out.rds (k - 1) (by omega)
            injection hbo2 with hbo2
            injection hbo2 with hb1 ho1
            subst hb1 ho1
            rw [prevAt_pos (by omega) hlt] at HOK
            obtain ⟨y, hye⟩ : ∃ y, getR l (k - 1) = y := ⟨_, rfl⟩
            rw [hye] at hy1 HOK
            have HY1 := Lib.hid hy1
            have e2 : IntKind.i64.wrap ((k : Int) - 1) = ((k - 1 : Nat) : Int) := (IntWalk.i64_in _ (by omega)).trans (by omega)
            have y3 : (0 : Int) ≤ ((k - 1 : Nat) : Int) := by omega
            have y4 : ((k - 1 : Nat) : Int) < (l.length : Int) := by omega
            obtain ⟨j, hj⟩ : ∃ j, k - 1 = j := ⟨_, rfl⟩
            rw [hj] at e2 y3 y4 HY1
            clear hy1 hye hj h0
            have HO := Lib.hid (fun w => isOld_any y x w)
            have HLA := Lib.hid (fun w => isLater_any y x w)
            obtain ⟨old, ho⟩ : ∃ o, oldR y x = o := ⟨_, rfl⟩
            obtain ⟨lat, hla⟩ : ∃ o, laterR y x = o := ⟨_, rfl⟩
            dsimp only at HOK
            rw [ho] at HO HOK
            rw [hla] at HLA HOK
            clear ho hla
            cases old with
            | true =>
              have HNO : Hid (okAt l k = false) := Lib.hid (by rw [HOK.out]; simp)
              refine wp_region_B 21 (fun w'' => Below w1.heap.size w1 w'') mixed (by kernel_rfl) (below_closed w1) (Below.refl _ _).drew ?_
              simp only [List.take_succ_cons, List.take_zero, List.drop_succ_cons, List.drop_zero]
              intro KR hR
              have HR := Lib.hid hR
              clear hR
              have HCC := Lib.hid (show ∀ w'', Below w1.heap.size w1 w'' → w''.cell? ⟨wr.heap.size, 0, none⟩ = some (.int .i64 x.s) ∧ w''.cell? ⟨wr.heap.size, 1, none⟩ = some (.int .i64 x.n) ∧ w''.cell? ⟨wr.heap.size, 2, none⟩ = some (.int .i64 x.m) ∧ w''.cell? ⟨wr.heap.size, 3, none⟩ = some (.int .i64 x.r) ∧ w''.cell? ⟨wr.heap.size, 4, none⟩ = some (.int .u64 x.k) ∧ w''.cell? ⟨b, off + j * 5, none⟩ = some (.int .i64 y.s) ∧ w''.cell? ⟨b, off + j * 5 + 1, none⟩ = some (.int .i64 y.n) ∧ w''.cell? ⟨b, off + j * 5 + 2, none⟩ = some (.int .i64 y.m) ∧ w''.cell? ⟨b, off + j * 5 + 3, none⟩ = some (.int .i64 y.r) ∧ w''.cell? ⟨b, off + j * 5 + 4, none⟩ = some (.int .u64 y.k) ∧ w''.cell? ⟨q, 0, none⟩ = some (.slice (some ⟨b, off, none⟩) l.length cap) from fun w'' hw => ⟨(HRB.out.later hw).cells.1, (HRB.out.later hw).cells.2.1, (HRB.out.later hw).cells.2.2.1, (HRB.out.later hw).cells.2.2.2.1, (HRB.out.later hw).cells.2.2.2.2, (HY1.out.later hw).1, (HY1.out.later hw).2.1, (HY1.out.later hw).2.2.1, (HY1.out.later hw).2.2.2.1, (HY1.out.later hw).2.2.2.2, (HST.out.box.later hw).cell 0⟩)
              repeat (first
                | ((with_reducible refine wpB_move ?_ ?_); exact rfl; simp only [Act.put, List.setIfInBounds_toArray, List.set_cons_zero, List.set_cons_succ])
                | ((with_reducible refine wpB_skip ?_ ?_); exact rfl; simp only [Act.put, List.setIfInBounds_toArray, List.set_cons_zero, List.set_cons_succ])
                | (apply wpB_call 32 #[rdV y, rdV x] rfl (v := .bool true)
                   · (intro w'; go_simp)
                   · exact fun w' hw' => HO.out w'
                   simp only [Act.put, List.setIfInBounds_toArray, List.set_cons_zero, List.set_cons_succ])
                | (apply wpB_val rfl
                   · (intro w' hw'; obtain ⟨c0, c1, c2, c3, c4, c5, c6, c7, c8, c9, c10⟩ := HCC.out w' hw'; go_simp; with_reducible rfl)
                   simp only [Act.put, List.setIfInBounds_toArray, List.set_cons_zero, List.set_cons_succ]))
              refine wpB_nil (HR.out _ (fun w2 hw2 => ?_))
              clear HR HCC
              replace HST := Lib.hid (HST.out.later HJ.out hw2)
              replace HRB := Lib.hid (HRB.out.later hw2)
              clear hw2 c0 c1 c2 c3 c4
              refine wpList_nil ?_
              gi_wp2
              (try simp only [Exit.noGoto_normal])
              go_end0
              exact HSTOP.out HNO.out _ HST.out
            | false =>
              cases lat with
              | true =>
                have HNO : Hid (okAt l k = false) := Lib.hid (by rw [HOK.out]; simp)
                refine wp_region_B 21 (fun w'' => Below w1.heap.size w1 w'') mixed (by kernel_rfl) (below_closed w1) (Below.refl _ _).drew ?_
                simp only [List.take_succ_cons, List.take_zero, List.drop_succ_cons, List.drop_zero]
                intro KR hR
                have HR := Lib.hid hR
                clear hR
                have HCC := Lib.hid (show ∀ w'', Below w1.heap.size w1 w'' → w''.cell? ⟨wr.heap.size, 0, none⟩ = some (.int .i64 x.s) ∧ w''.cell? ⟨wr.heap.size, 1, none⟩ = some (.int .i64 x.n) ∧ w''.cell? ⟨wr.heap.size, 2, none⟩ = some (.int .i64 x.m) ∧ w''.cell? ⟨wr.heap.size, 3, none⟩ = some (.int .i64 x.r) ∧ w''.cell? ⟨wr.heap.size, 4, none⟩ = some (.int .u64 x.k) ∧ w''.cell? ⟨b, off + j * 5, none⟩ = some (.int .i64 y.s) ∧ w''.cell? ⟨b, off + j * 5 + 1, none⟩ = some (.int .i64 y.n) ∧ w''.cell? ⟨b, off + j * 5 + 2, none⟩ = some (.int .i64 y.m) ∧ w''.cell? ⟨b, off + j * 5 + 3, none⟩ = some (.int .i64 y.r) ∧ w''.cell? ⟨b, off + j * 5 + 4, none⟩ = some (.int .u64 y.k) ∧ w''.cell? ⟨q, 0, none⟩ = some (.slice (some ⟨b, off, none⟩) l.length cap) from fun w'' hw => ⟨(HRB.out.later hw).cells.1, (HRB.out.later hw).cells.2.1, (HRB.out.later hw).cells.2.2.1, (HRB.out.later hw).cells.2.2.2.1, (HRB.out.later hw).cells.2.2.2.2, (HY1.out.later hw).1, (HY1.out.later hw).2.1, (HY1.out.later hw).2.2.1, (HY1.out.later hw).2.2.2.1, (HY1.out.later hw).2.2.2.2, (HST.out.box.later hw).cell 0⟩)
                repeat (first
                  | ((with_reducible refine wpB_move ?_ ?_); exact rfl; simp only [Act.put, List.setIfInBounds_toArray, List.set_cons_zero, List.set_cons_succ])
                  | ((with_reducible refine wpB_skip ?_ ?_); exact rfl; simp only [Act.put, List.setIfInBounds_toArray, List.set_cons_zero, List.set_cons_succ])
                  | (apply wpB_call 32 #[rdV y, rdV x] rfl (v := .bool false)
                     · (intro w'; go_simp)
                     · exact fun w' hw' => HO.out w'
                     simp only [Act.put, List.setIfInBounds_toArray, List.set_cons_zero, List.set_cons_succ])
                  | (apply wpB_call 33 #[rdV y, rdV x] rfl (v := .bool true)
                     · (intro w'; go_simp)
                     · exact fun w' hw' => HLA.out w'
                     simp only [Act.put, List.setIfInBounds_toArray, List.set_cons_zero, List.set_cons_succ])
                  | (apply wpB_val rfl
                     · (intro w' hw'; obtain ⟨c0, c1, c2, c3, c4, c5, c6, c7, c8, c9, c10⟩ := HCC.out w' hw'; go_simp; with_reducible rfl)
                     simp only [Act.put, List.setIfInBounds_toArray, List.set_cons_zero, List.set_cons_succ]))
                refine wpB_nil (HR.out _ (fun w2 hw2 => ?_))
                clear HR HCC
                replace HST := Lib.hid (HST.out.later HJ.out hw2)
                replace HRB := Lib.hid (HRB.out.later hw2)
                clear hw2 c0 c1 c2 c3 c4
                refine wpList_nil ?_
                gi_wp2
                (try simp only [Exit.noGoto_normal])
                go_end0
                exact HSTOP.out HNO.out _ HST.out
              | false =>
                have HYES : Hid (okAt l k = true) := Lib.hid (by rw [HOK.out]; simp [HN.out])
                refine wp_region_B 21 (fun w'' => Below w1.heap.size w1 w'') mixed (by kernel_rfl) (below_closed w1) (Below.refl _ _).drew ?_
                simp only [List.take_succ_cons, List.take_zero, List.drop_succ_cons, List.drop_zero]
                intro KR hR
                have HR := Lib.hid hR
                clear hR
                have HCC := Lib.hid (show ∀ w'', Below w1.heap.size w1 w'' → w''.cell? ⟨wr.heap.size, 0, none⟩ = some (.int .i64 x.s) ∧ w''.cell? ⟨wr.heap.size, 1, none⟩ = some (.int .i64 x.n) ∧ w''.cell? ⟨wr.heap.size, 2, none⟩ = some (.int .i64 x.m) ∧ w''.cell? ⟨wr.heap.size, 3, none⟩ = some (.int .i64 x.r) ∧ w''.cell? ⟨wr.heap.size, 4, none⟩ = some (.int .u64 x.k) ∧ w''.cell? ⟨b, off + j * 5, none⟩ = some (.int .i64 y.s) ∧ w''.cell? ⟨b, off + j * 5 + 1, none⟩ = some (.int .i64 y.n) ∧ w''.cell? ⟨b, off + j * 5 + 2, none⟩ = some (.int .i64 y.m) ∧ w''.cell? ⟨b, off + j * 5 + 3, none⟩ = some (.int .i64 y.r) ∧ w''.cell? ⟨b, off + j * 5 + 4, none⟩ = some (.int .u64 y.k) ∧ w''.cell? ⟨q, 0, none⟩ = some (.slice (some ⟨b, off, none⟩) l.length cap) from fun w'' hw => ⟨(HRB.out.later hw).cells.1, (HRB.out.later hw).cells.2.1, (HRB.out.later hw).cells.2.2.1, (HRB.out.later hw).cells.2.2.2.1, (HRB.out.later hw).cells.2.2.2.2, (HY1.out.later hw).1, (HY1.out.later hw).2.1, (HY1.out.later hw).2.2.1, (HY1.out.later hw).2.2.2.1, (HY1.out.later hw).2.2.2.2, (HST.out.box.later hw).cell 0⟩)
                repeat (first
                  | ((with_reducible refine wpB_move ?_ ?_); exact rfl; simp only [Act.put, List.setIfInBounds_toArray, List.set_cons_zero, List.set_cons_succ])
                  | ((with_reducible refine wpB_skip ?_ ?_); exact rfl; simp only [Act.put, List.setIfInBounds_toArray, List.set_cons_zero, List.set_cons_succ])
                  | (apply wpB_call 32 #[rdV y, rdV x] rfl (v := .bool false)
                     · (intro w'; go_simp)
                     · exact fun w' hw' => HO.out w'
                     simp only [Act.put, List.setIfInBounds_toArray, List.set_cons_zero, List.set_cons_succ])
                  | (apply wpB_call 33 #[rdV y, rdV x] rfl (v := .bool false)
                     · (intro w'; go_simp)
                     · exact fun w' hw' => HLA.out w'
                     simp only [Act.put, List.setIfInBounds_toArray, List.set_cons_zero, List.set_cons_succ])
                  | (apply wpB_val rfl
                     · (intro w' hw'; obtain ⟨c0, c1, c2, c3, c4, c5, c6, c7, c8, c9, c10⟩ := HCC.out w' hw'; go_simp; with_reducible rfl)
                     simp only [Act.put, List.setIfInBounds_toArray, List.set_cons_zero, List.set_cons_succ]))
                refine wpB_nil (HR.out _ (fun w2 hw2 => ?_))
                clear HR HCC
                replace HST := Lib.hid (HST.out.later HJ.out hw2)
                replace HRB := Lib.hid (HRB.out.later hw2)
                clear hw2 c0 c1 c2 c3 c4
                refine wpList_nil ?_
                obtain ⟨fn, tmps, assign, body, hy, hR⟩ := HY.out (enum l k) ((k : Int), x) w2 HST.out.j (by rw [enum_length]; exact hlt)
                dsimp only [encs] at hy
                have HSN : Hid (enum l (k + 1) = enum l k ++ [((k : Int), x)]) := Lib.hid (by rw [enum_succ, HXE.out])
                have HRR := Lib.hid hR
                clear hR
                obtain ⟨c0, c1, c2, c3, c4⟩ := HRB.out.cells
                gi_wp2
                refine ⟨fun hd => by simp [Fence.wide] at hd, HRR.out.mono ?_⟩
                rintro e W3 (⟨rfl, hJ3, hk3⟩ | ⟨rfl, hJx3⟩)
                · have HS3 : Hid (ItSt W W3 q (some ⟨b, off, none⟩) cap l (k + 1) J) := Lib.hid ⟨fun j hj => by
                      rcases Nat.lt_or_eq_of_le (Nat.le_of_lt_succ hj) with h | rfl
                      · exact HST.out.ok j h
                      · exact HYES.out, by rw [HSN.out]; exact hJ3, hk3.2.trans HST.out.box, HST.out.rds.low HLOW.out hk3.1, Nat.le_trans HST.out.size hk3.1.size⟩
                  clear hJ3 hk3 hy HRR c0 c1 c2 c3 c4
                  gi_wp2
                  go_roundw
                  case rel => exact ⟨k + 1, by omega, by go_num, HS3.out⟩
                  case measure => simp [intOf]; omega
                · have HX3 : Hid (Jx (enum l (k + 1)) W3) := Lib.hid (by rw [HSN.out]; exact hJx3)
                  clear hJx3 hy HRR c0 c1 c2 c3 c4
                  gi_wp2
                  (try simp only [Exit.noGoto_ret])
                  refine bodyPost_ret (results_none rfl _ _ _) rfl ?_
                  exact ⟨⟨_, rfl⟩, .inr ⟨_, ⟨k, hlt, rfl, fun i hi => by rcases Nat.lt_or_eq_of_le hi with h | rfl; exact HST.out.ok i h; exact HYES.out⟩, HX3.out⟩⟩
        · have hnb : (x.n == (k : Int) + 1) = false := by simpa using hn
          have e1 : IntKind.i64.wrap ((k : Int) + 1) = (k : Int) + 1 := IntWalk.i64_in _ (by omega)
          have HNO : Hid (okAt l k = false) := Lib.hid (by rw [HOK.out]; simp [hn])
          clear hn
          gi_wp2
          simp only [Exit.noGoto_normal]
          go_end0
          exact HSTOP.out HNO.out _ HST.out
    · obtain rfl : k = l.length := by omega
      gi_wp2
      simp only [Exit.noGoto_normal]
      go_end0
      exact ⟨⟨_, rfl⟩, .inl ⟨_, ⟨_, Nat.le_refl _, rfl, HST.out.ok, .inl rfl⟩, HST.out.j⟩⟩
end
/-! ### Wg40 -/
section
open Go.RowKit Go.Shelf
attribute [local go_sem] Oper.semAt_some

set_option maxHeartbeats 1000000 in
theorem inOrder_any (v : Value) (w : World) (hv : ∃ o n c, v = .slice o n c) : Calls Tryz.prog 24 #[v] w fun e w' => e = .returned (.func (.func 54) #[] #[.pointer (some ⟨w.heap.size, 0, none⟩)]) ∧ w' = w.alloc (.cells #[v] 36) := by
  obtain ⟨o, n, c, rfl⟩ := hv
  go_enter Tryz.func24, Tryz.ntmps24
  go_wp2
  go_ret
  exact ⟨rfl, rfl⟩

/-- What inOrder hands back. -/
theorem inOrder_stops (n q n₀ : Nat) (o : Option Addr) (cap : Nat) (l : List Rd) (hl : l.length ≤ 9223372036854775807) (w : World) (hlow : ∀ b off, o = some ⟨b, off, none⟩ → 0 < l.length → b < n₀) (hq : Blk w q 36 #[.slice o l.length cap]) (hr : Rds w o l) :
    SeqStopsK Fence.wide n Tryz.prog 54 #[.pointer (some ⟨q, 0, none⟩)] encs (Kpt n₀ q) (Sdone l) (Sstop l) l.length w :=
  fun lp J Jx W hW hJ hJx hY h0 => inOrder1_in n lp q n₀ o cap l J Jx hl hlow hY W hJ hJx (hq.later hW) (hr.later hW) h0

/-! ### Links, from the left -/
def stL (s : Nat) (ps : List (Int × Rd)) : Nat := ps.foldl (fun _ p => p.2.k) s
def lkOk : Nat → List (Int × Rd) → Prop
  | _, [] => True
  | s, p :: ps => p.2.k = link s p.2 ∧ lkOk p.2.k ps
theorem stL_snoc (s : Nat) (ps : List (Int × Rd)) (p : Int × Rd) : stL s (ps ++ [p]) = p.2.k := by simp [stL]
theorem lkOk_snoc (p : Int × Rd) : ∀ (s : Nat) (ps : List (Int × Rd)), lkOk s (ps ++ [p]) ↔ (lkOk s ps ∧ p.2.k = link (stL s ps) p.2)
  | s, [] => by
    show (p.2.k = link s p.2 ∧ True) ↔ (True ∧ p.2.k = link s p.2)
    exact And.comm
  | s, x :: ps => by
    show (x.2.k = link s x.2 ∧ lkOk x.2.k (ps ++ [p])) ↔ ((x.2.k = link s x.2 ∧ lkOk x.2.k ps) ∧ p.2.k = link (stL x.2.k ps) p.2)
    rw [lkOk_snoc p x.2.k ps, and_assoc]
theorem stL_lt {s : Nat} (hs : s < 18446744073709551616) (ps : List (Int × Rd)) : stL s ps < 18446744073709551616 := by
  rcases List.eq_nil_or_concat ps with rfl | ⟨q, p, rfl⟩
  · exact hs
  · rw [List.concat_eq_append, stL_snoc]; exact p.2.hk
theorem stL_enum (s : Nat) {l : List Rd} : ∀ {k : Nat}, k ≤ l.length → stL s (enum l k) = stAt s l k
  | 0, _ => rfl
  | k + 1, hk => by rw [enum_succ, stL_snoc, stAt_succ s (by omega)]
theorem lkOk_enum {s : Nat} {l : List Rd} : ∀ {k : Nat}, k ≤ l.length → lkOk s (enum l k) → ∀ i, i < k → (getR l i).k = link (stAt s l i) (getR l i)
  | 0, _, _, i, hi => absurd hi (by omega)
  | k + 1, hk, h, i, hi => by
    rw [enum_succ, lkOk_snoc, stL_enum s (by omega)] at h
    rcases Nat.lt_or_eq_of_le (Nat.le_of_lt_succ hi) with h1 | rfl
    · exact lkOk_enum (by omega) h.1 i h1
    · exact h.2

/-- The cells of Check: its result, how many are good, the state. -/
structure ChkSt (w W : World) (r g : Int) (s : Nat) : Prop where
  br : Boxed W w.heap.size 3 (.int .i64 r)
  bg : Boxed W (w.heap.size + 1) 3 (.int .i64 g)
  bs : Boxed W (w.heap.size + 1 + 1) 29 (.int .u64 (s : Nat))
  bel : Below w.heap.size w W
  sz : w.heap.size + 1 + 1 + 1 < W.heap.size

theorem boxed_turn {W W' : World} {row : Option Nat} {B : Nat} {t : TypeId} {v : Value} (h : Boxed W B t v) (hg : W.grownBy W' row) (hr : ∀ r, row = some r → ∃ o : Obj, W.heap[r]? = some o ∧ o.isCells = false) : Boxed W' B t v :=
  h.kept hg (fun e => by
    obtain ⟨o, ho, hc⟩ := hr B e.symm
    rw [show W.heap[B]? = _ from h] at ho
    cases ho
    cases hc)
theorem boxed_later {W W' : World} {B : Nat} {t : TypeId} {v : Value} (h : Boxed W B t v) (hb : Below W.heap.size W W') : Boxed W' B t v := (hb.block B h.lt).trans h

theorem ChkSt.turn {w W W' : World} {r g : Int} {s B : Nat} (h : ChkSt w W r g s) {row : Option Nat} (hB : w.heap.size ≤ B) (hg : W.grownBy W' row) (hr : ∀ r, row = some r → B ≤ r ∧ ∃ o : Obj, W.heap[r]? = some o ∧ o.isCells = false) : ChkSt w W' r g s :=
  ⟨boxed_turn h.br hg fun r e => (hr r e).2, boxed_turn h.bg hg fun r e => (hr r e).2, boxed_turn h.bs hg fun r e => (hr r e).2, h.bel.grown hg (Nat.le_trans (Nat.le_refl _) h.bel.size) (fun k e => Nat.le_trans hB (hr k e).1), Nat.lt_of_lt_of_le h.sz hg.size⟩
theorem ChkSt.later {w W W' : World} {r g : Int} {s : Nat} (h : ChkSt w W r g s) (hb : Below W.heap.size W W') : ChkSt w W' r g s :=
  ⟨boxed_later h.br hb, boxed_later h.bg hb, boxed_later h.bs hb, below_step h.bel hb, Nat.lt_of_lt_of_le h.sz hb.size⟩
theorem boxed_other {W : World} {B : Nat} {t : TypeId} {v : Value} (h : Boxed W B t v) {p : Addr} (hp : B ≠ p.block) (u : Value) : Boxed (W.setCell p u) B t v := (Below.heap_setCell W p u B hp).trans h
theorem ChkSt.setR {w W : World} {r g : Int} {s : Nat} (h : ChkSt w W r g s) (r' : Int) : ChkSt w (W.setCell ⟨w.heap.size, 0, none⟩ (.int .i64 r')) r' g s :=
  ⟨h.br.set _, boxed_other h.bg (by simp) _, boxed_other h.bs (by simp; omega) _, h.bel.setCell (Nat.le_refl _) _, by rw [World.size_setCell]; exact h.sz⟩
theorem ChkSt.setG {w W : World} {r g : Int} {s : Nat} (h : ChkSt w W r g s) (g' : Int) : ChkSt w (W.setCell ⟨w.heap.size + 1, 0, none⟩ (.int .i64 g')) r g' s :=
  ⟨boxed_other h.br (by simp) _, h.bg.set _, boxed_other h.bs (by simp) _, h.bel.setCell (by simp) _, by rw [World.size_setCell]; exact h.sz⟩
theorem ChkSt.setS {w W : World} {r g : Int} {s : Nat} (h : ChkSt w W r g s) (s' : Nat) : ChkSt w (W.setCell ⟨w.heap.size + 1 + 1, 0, none⟩ (.int .u64 (s' : Nat))) r g s' :=
  ⟨boxed_other h.br (by simp; omega) _, boxed_other h.bg (by simp) _, h.bs.set _, h.bel.setCell (by simp; omega) _, by rw [World.size_setCell]; exact h.sz⟩

theorem keeps_below {W W' : World} (hb : Below W.heap.size W W') : KeepsOthers W W' := ⟨hb.size, fun k _ hk _ => (hb.block k (Array.getElem?_eq_some_iff.1 hk).1).trans hk⟩
theorem kpt_below {n₀ q : Nat} {W W' : World} (hn : n₀ ≤ W.heap.size) (hq : q < W.heap.size) (hb : Below W.heap.size W W') : Kpt n₀ q W W' := ⟨hb.mono hn, hb.block q hq⟩
theorem kpt_set {n₀ q : Nat} {W : World} {p : Addr} (hp : n₀ ≤ p.block) (hq : q ≠ p.block) (u : Value) : Kpt n₀ q W (W.setCell p u) := ⟨(Below.refl _ _).setCell hp _, Below.heap_setCell _ _ _ _ hq⟩

set_option maxRecDepth 100000 in
set_option maxHeartbeats 8000000 in
theorem Check_any (seed : Nat) (o : Option Addr) (cap : Nat) (l : List Rd) (w : World) (hs : seed < 18446744073709551616) (hr : Rds w o l) (hl : l.length ≤ 9223372036854775807) : Calls Tryz.prog 13 #[.int .u64 (seed : Nat), .slice o l.length cap] w (Ret (.int .i64 (chk seed l)) w) := by
  have HRD := Lib.hid hr
  have HLOW := Lib.hid hr.lt
  clear hr
  obtain ⟨n, hn⟩ : ∃ n : Nat, 6 ≤ n := ⟨8, by omega⟩
  refine (callsIn_wide (n := n)).1 ?_
  refine callsIn_of_wp_marks Tryz.func13 rfl trivial ?_ rfl
  simp only [Tryz.ntmps13, List.size_toArray, List.length_cons, List.length_nil, Nat.reduceAdd, Nat.reduceSub, Array.replicate_succ, Array.replicate_zero, List.push_toArray, List.append_toArray, List.nil_append, List.cons_append]
  gi_wp2_with fail
  refine inCall (inOrder_any _ _ ⟨_, _, _, rfl⟩) ?_
  rintro e w' ⟨rfl, rfl⟩
  have HST0 : Hid (ChkSt w ((((w.alloc (.cells #[.int .i64 0] 3)).alloc (.cells #[.int .i64 0] 3)).alloc (.cells #[.int .u64 (seed : Nat)] 29)).alloc (.cells #[.slice o l.length cap] 36)) 0 0 seed) := by
    refine Lib.hid ⟨((Boxed.new w _ _).alloc _).alloc _ |>.alloc _, ?_, ?_, below_alloc (below_alloc (below_alloc (below_alloc (Below.refl _ _) _) _) _) _, by simp⟩
    · have := ((Boxed.new (w.alloc (.cells #[.int .i64 0] 3)) 3 (.int .i64 0)).alloc (.cells #[.int .u64 (seed : Nat)] 29)).alloc (.cells #[.slice o l.length cap] 36)
      rwa [World.size_alloc] at this
    · have := (Boxed.new ((w.alloc (.cells #[.int .i64 0] 3)).alloc (.cells #[.int .i64 0] 3)) 29 (.int .u64 (seed : Nat))).alloc (.cells #[.slice o l.length cap] 36)
      rwa [World.size_alloc, World.size_alloc] at this
  have HBX : Hid (Blk ((((w.alloc (.cells #[.int .i64 0] 3)).alloc (.cells #[.int .i64 0] 3)).alloc (.cells #[.int .u64 (seed : Nat)] 29)).alloc (.cells #[.slice o l.length cap] 36)) (w.heap.size + 1 + 1 + 1) 36 #[.slice o l.length cap]) := by
    have := Blk.new (((w.alloc (.cells #[.int .i64 0] 3)).alloc (.cells #[.int .i64 0] 3)).alloc (.cells #[.int .u64 (seed : Nat)] 29)) 36 #[.slice o l.length cap]
    rw [World.size_alloc, World.size_alloc, World.size_alloc] at this
    exact Lib.hid this
  gi_wp2_with fail
  generalize hW0 : (((w.alloc (.cells #[.int .i64 0] 3)).alloc (.cells #[.int .i64 0] 3)).alloc (.cells #[.int .u64 (seed : Nat)] 29)).alloc (.cells #[.slice o l.length cap] 36) = W0 at HST0 HBX ⊢
  have hsz : W0.heap.size = w.heap.size + 4 := by rw [← hW0]; simp
  have HSZ := Lib.hid hsz
  clear hW0 hsz

  refine wpIn_rangeFunc_ownH (F := Fence.wide) rfl (by omega) (gf := 54) (lb := #[.pointer (some ⟨w.heap.size + 1 + 1 + 1, 0, none⟩)]) rfl trivial (enters_of Tryz.func54 (by kernel_rfl) rfl)
    (inOrder_stops (n - 1) (w.heap.size + 1 + 1 + 1) w.heap.size o cap l hl W0 HLOW.out HBX.out (HRD.out.later HST0.out.bel)) (fun h k => h.trans k)
    (fun W lb ob ob' h1 h2 _ _ => ⟨(Below.refl _ _).grown (grownBy_putObj' W lb ob') (by have := (Array.getElem?_eq_some_iff.1 h2).1; have := HSZ.out; omega) (fun k e => by cases e; have := HSZ.out; omega), World.putObj_heap_other (by have := HSZ.out; omega)⟩)
    (Below.refl _ _) (fun _ => rfl)
    (fun pre W => ChkSt w W 0 (pre.length : Nat) (stL seed pre) ∧ lkOk seed pre)
    (fun c pre W => c = .ret ∧ ∃ (pre' : List (Int × Rd)) (x : Int × Rd) (g : Int) (s : Nat), pre = pre' ++ [x] ∧ lkOk seed pre' ∧ ¬ x.2.k = link (stL seed pre') x.2 ∧ ChkSt w W (pre'.length : Nat) g s)
    (fun s A B row hs hg hr => ⟨hs.1.turn (by have := HSZ.out; omega) hg hr, hs.2⟩)
    (fun c s A B row hs hg hr => by obtain ⟨h1, pre', x, g, t, h2, h3, h4, h5⟩ := hs; exact ⟨h1, pre', x, g, t, h2, h3, h4, h5.turn (by have := HSZ.out; omega) hg hr⟩)
    ⟨HST0.out, trivial⟩
    (fun x a' W => ∃ Bx, w.heap.size + 1 + 1 + 1 < Bx ∧ RdB W Bx x.2 ∧ a' = { tmps := #[.int .u64 (seed : Nat), .slice o l.length cap, undef, undef, .pointer (some ⟨w.heap.size, 0, none⟩), .pointer (some ⟨w.heap.size + 1, 0, none⟩), .pointer (some ⟨w.heap.size + 1 + 1, 0, none⟩), undef, .pointer (some ⟨Bx, 0, none⟩), .int .u64 (seed : Nat), .slice o l.length cap, .func (.func 54) #[] #[.pointer (some ⟨w.heap.size + 1 + 1 + 1, 0, none⟩)], .int .i64 x.1, rdV x.2, undef, undef, undef, undef, undef, undef, undef, undef, undef, undef, undef, undef, undef, undef, undef, undef], defers := [] })
    (fun x a' _ A B row hs hg hr => by
      obtain ⟨Bx, h1, h2, h3⟩ := hs
      refine ⟨Bx, h1, (hg.block Bx (Blk.lt h2) (fun e => ?_)).trans h2, h3⟩
      obtain ⟨_, ob, ho, hc⟩ := hr Bx e.symm
      rw [show A.heap[Bx]? = _ from h2] at ho
      cases ho
      cases hc)
    ?assign ?body ?done ?stop
  case assign =>
    rintro lp pre x W K ⟨hst, hlk⟩ hK
    have HK := Lib.hid hK
    have HS := Lib.hid hst
    have HQ := Lib.hid hst.sz
    clear hK hst
    gi_wp2
    exact HK.out _ _ ((KeepsOthers.alloc _ _).from _) ⟨(Below.refl _ W).alloc HS.out.bel.size _, Below.heap_alloc _ _ _ HQ.out⟩ ⟨HS.out.later (below_alloc (Below.refl _ _) _), hlk⟩ ⟨W.heap.size, HQ.out, RdB.new W x.2, rfl⟩
  case body =>
    rintro lp pre ⟨i, x⟩ a' W _ _ ⟨hst, hlk⟩ ⟨Bx, hBx, hxb, rfl⟩ hpl
    dsimp only at hxb
    have HS := Lib.hid hst
    have HXB := Lib.hid hxb
    have HLK := Lib.hid hlk
    have hsl := stL_lt hs pre
    have HSN := Lib.hid (lkOk_snoc (i, x) seed pre)
    have HST := Lib.hid (stL_snoc seed pre (i, x))
    obtain ⟨z, hz⟩ : ∃ z, stL seed pre = z := ⟨_, rfl⟩
    rw [hz] at HS hsl HSN
    have HZ := Lib.hid hz
    have HL := Lib.hid (fun w' => Link_any z x hsl w')
    obtain ⟨L, hL⟩ : ∃ L, link z x = L := ⟨_, rfl⟩
    dsimp only at HSN HST
    rw [hL] at HL HSN
    have HLL := Lib.hid hL
    have e1 : IntKind.i64.wrap ((pre.length : Int) + 1) = (pre.length : Int) + 1 := IntWalk.i64_in _ (by omega)
    clear hst hxb hlk hz hL
    by_cases hkL : x.k = L
    · subst hkL
      gi_wp2
      refine wpIn_region_B 6 (fun w'' => Below W.heap.size W w'') mixed (by kernel_rfl) (by kernel_rfl) ?_ (below_closed W) (Below.refl _ _).drew ?_
      · rintro ⟨_, _, h⟩
        exact h
      simp only [List.take_succ_cons, List.take_zero, List.drop_succ_cons, List.drop_zero]
      intro KR hR
      have HR := Lib.hid hR
      clear hR
      have HCC := Lib.hid (show ∀ w'', Below W.heap.size W w'' → w''.cell? ⟨Bx, 0, none⟩ = some (.int .i64 x.s) ∧ w''.cell? ⟨Bx, 1, none⟩ = some (.int .i64 x.n) ∧ w''.cell? ⟨Bx, 2, none⟩ = some (.int .i64 x.m) ∧ w''.cell? ⟨Bx, 3, none⟩ = some (.int .i64 x.r) ∧ w''.cell? ⟨Bx, 4, none⟩ = some (.int .u64 x.k) ∧ w''.cell? ⟨w.heap.size + 1 + 1, 0, none⟩ = some (.int .u64 (z : Nat)) from fun w'' hw => ⟨(HXB.out.later hw).cells.1, (HXB.out.later hw).cells.2.1, (HXB.out.later hw).cells.2.2.1, (HXB.out.later hw).cells.2.2.2.1, (HXB.out.later hw).cells.2.2.2.2, (HS.out.later hw).bs.cell⟩)
      repeat (first
        | ((with_reducible refine wpB_move ?_ ?_); exact rfl; simp only [Act.put, List.setIfInBounds_toArray, List.set_cons_zero, List.set_cons_succ])
        | ((with_reducible refine wpB_skip ?_ ?_); exact rfl; simp only [Act.put, List.setIfInBounds_toArray, List.set_cons_zero, List.set_cons_succ])
        | (apply wpB_call 25 #[.int .u64 (z : Nat), rdV x] rfl (v := .int .u64 (x.k : Nat))
           · (intro w'; go_simp)
           · exact fun w' hw' => HL.out w'
           simp only [Act.put, List.setIfInBounds_toArray, List.set_cons_zero, List.set_cons_succ])
        | (apply wpB_val rfl
           · (intro w' hw'; obtain ⟨c0, c1, c2, c3, c4, c5⟩ := HCC.out w' hw'; go_simp; with_reducible rfl)
           simp only [Act.put, List.setIfInBounds_toArray, List.set_cons_zero, List.set_cons_succ]))
      refine wpB_nil (HR.out _ (fun w2 hw2 => ?_))
      clear HR HCC
      have HS2 := Lib.hid (HS.out.later hw2)
      have HXB2 := Lib.hid (HXB.out.later hw2)
      have HKO := Lib.hid (keeps_below hw2)
      have HKP := Lib.hid (kpt_below (n₀ := w.heap.size) HS.out.bel.size HS.out.sz hw2)
      clear hw2
      refine wpList_nil ?_
      have c4 := HXB2.out.cells.2.2.2.2
      have cg := HS2.out.bg.cell
      have cs := HS2.out.bs.cell
      have cr := HS2.out.br.cell
      have fg := HS2.out.bg.frozen
      have fs := HS2.out.bs.frozen
      have fr := HS2.out.br.frozen
      gi_wp2
      refine ⟨((HKO.out.trans (KeepsOthers.setCell _ _ _)).trans (KeepsOthers.setCell _ _ _)).from _, (HKP.out.trans (kpt_set (by dsimp only; omega) (by dsimp only; omega) _)).trans (kpt_set (by dsimp only; omega) (by dsimp only; omega) _), ?_, ?_⟩
      · rw [HST.out]
        have := (HS2.out.setS x.k).setG ((pre.length : Int) + 1)
        rw [show (((pre ++ [(i, x)]).length : Nat) : Int) = (pre.length : Int) + 1 by simp]
        exact this
      · exact HSN.out.2 ⟨HLK.out, by trivial⟩
    · have hkI : ¬ (x.k : Int) = (L : Int) := by omega
      have hkN : ¬ x.k = link (stL seed pre) x := by rw [HZ.out, HLL.out]; exact hkL
      have HKN := Lib.hid hkN
      clear hkN
      gi_wp2
      refine wpIn_region_B 6 (fun w'' => Below W.heap.size W w'') mixed (by kernel_rfl) (by kernel_rfl) ?_ (below_closed W) (Below.refl _ _).drew ?_
      · rintro ⟨_, _, h⟩
        exact h
      simp only [List.take_succ_cons, List.take_zero, List.drop_succ_cons, List.drop_zero]
      intro KR hR
      have HR := Lib.hid hR
      clear hR
      have HCC := Lib.hid (show ∀ w'', Below W.heap.size W w'' → w''.cell? ⟨Bx, 0, none⟩ = some (.int .i64 x.s) ∧ w''.cell? ⟨Bx, 1, none⟩ = some (.int .i64 x.n) ∧ w''.cell? ⟨Bx, 2, none⟩ = some (.int .i64 x.m) ∧ w''.cell? ⟨Bx, 3, none⟩ = some (.int .i64 x.r) ∧ w''.cell? ⟨Bx, 4, none⟩ = some (.int .u64 x.k) ∧ w''.cell? ⟨w.heap.size + 1 + 1, 0, none⟩ = some (.int .u64 (z : Nat)) from fun w'' hw => ⟨(HXB.out.later hw).cells.1, (HXB.out.later hw).cells.2.1, (HXB.out.later hw).cells.2.2.1, (HXB.out.later hw).cells.2.2.2.1, (HXB.out.later hw).cells.2.2.2.2, (HS.out.later hw).bs.cell⟩)
      repeat (first
        | ((with_reducible refine wpB_move ?_ ?_); exact rfl; simp only [Act.put, List.setIfInBounds_toArray, List.set_cons_zero, List.set_cons_succ])
        | ((with_reducible refine wpB_skip ?_ ?_); exact rfl; simp only [Act.put, List.setIfInBounds_toArray, List.set_cons_zero, List.set_cons_succ])
        | (apply wpB_call 25 #[.int .u64 (z : Nat), rdV x] rfl (v := .int .u64 (L : Nat))
           · (intro w'; go_simp)
           · exact fun w' hw' => HL.out w'
           simp only [Act.put, List.setIfInBounds_toArray, List.set_cons_zero, List.set_cons_succ])
        | (apply wpB_val rfl
           · (intro w' hw'; obtain ⟨c0, c1, c2, c3, c4, c5⟩ := HCC.out w' hw'; go_simp; with_reducible rfl)
           simp only [Act.put, List.setIfInBounds_toArray, List.set_cons_zero, List.set_cons_succ]))
      refine wpB_nil (HR.out _ (fun w2 hw2 => ?_))
      clear HR HCC
      have HS2 := Lib.hid (HS.out.later hw2)
      have HXB2 := Lib.hid (HXB.out.later hw2)
      have HKO := Lib.hid (keeps_below hw2)
      have HKP := Lib.hid (kpt_below (n₀ := w.heap.size) HS.out.bel.size HS.out.sz hw2)
      clear hw2
      refine wpList_nil ?_
      have c4 := HXB2.out.cells.2.2.2.2
      have cg := HS2.out.bg.cell
      have cs := HS2.out.bs.cell
      have cr := HS2.out.br.cell
      have fg := HS2.out.bg.frozen
      have fs := HS2.out.bs.frozen
      have fr := HS2.out.br.frozen
      gi_wp2
      refine ⟨(HKO.out.trans (KeepsOthers.setCell _ _ _)).from _, rfl, pre, (i, x), _, _, rfl, HLK.out, HKN.out, HS2.out.setR (pre.length : Int)⟩
  case done =>
    rintro D xs W hD ⟨k, hk, rfl, hok, hend⟩ ⟨hst, hlk⟩ hKD
    rw [enum_length] at hst
    have HS := Lib.hid hst
    have HRI : Hid (∀ i, i < k → rightAt seed l i = true) := Lib.hid (fun i hi => by rw [rightAt_get (by omega), hok i hi]; simp [lkOk_enum hk hlk i hi])
    have cg := hst.bg.cell
    have cr := hst.br.cell
    have fr := hst.br.frozen
    have HKD := Lib.hid hKD
    have HEND := Lib.hid hend
    clear hst hlk hKD hok hend
    by_cases hkl : k < l.length
    · have HC := Lib.hid (isChk_eq (seed := seed) (l := l) (v := (k : Int)) (.inr ⟨k, hkl, rfl, by rw [rightAt_get hkl]; rcases HEND.out with h | h; omega; rw [h]; rfl, HRI.out⟩))
      gi_wp2
      have HS2 := Lib.hid (HS.out.setR (k : Int))
      have hK' := (KeepsOthers.setCell W ⟨w.heap.size, 0, none⟩ (.int .i64 (k : Int))).same D _ HKD.out rfl
      refine ⟨by simp, .inl ⟨_, _, rfl, run_takeDeferred hK', ?_⟩⟩
      have h3 := HS2.out.turn (B := W0.heap.size) (by have := HSZ.out; omega) (grownBy_putObj' _ D (.deferred none)) (fun r e => by cases e; exact ⟨hD, _, hK', rfl⟩)
      have c5 := h3.br.cell
      refine ⟨.int .i64 (k : Int), ?_, by rw [HC.out], h3.bel⟩
      simp [results, Tryz.results13, go_sem, c5]
    · obtain rfl : k = l.length := by omega
      have HC := Lib.hid (isChk_eq (seed := seed) (l := l) (v := -1) (.inl ⟨rfl, HRI.out⟩))
      gi_wp2
      have HS2 := Lib.hid (HS.out.setR (-1))
      have hK' := (KeepsOthers.setCell W ⟨w.heap.size, 0, none⟩ (.int .i64 (-1))).same D _ HKD.out rfl
      refine ⟨by simp, .inl ⟨_, _, rfl, run_takeDeferred hK', ?_⟩⟩
      have h3 := HS2.out.turn (B := W0.heap.size) (by have := HSZ.out; omega) (grownBy_putObj' _ D (.deferred none)) (fun r e => by cases e; exact ⟨hD, _, hK', rfl⟩)
      have c5 := h3.br.cell
      refine ⟨.int .i64 (-1), ?_, by rw [HC.out], h3.bel⟩
      simp [results, Tryz.results13, go_sem, c5]
  case stop =>
    rintro D c pre W hD ⟨k, hkl, rfl, hok⟩ ⟨rfl, pre', x, g, t, h2, h3, h4, h5⟩ hKD
    rw [enum_succ] at h2
    obtain ⟨h6, h7⟩ := List.append_inj' h2 rfl
    subst h6
    injection h7 with h7
    subst h7
    rw [enum_length] at h5
    dsimp only at h4
    rw [stL_enum seed (by omega)] at h4
    have HC := Lib.hid (isChk_eq (seed := seed) (l := l) (v := (k : Int)) (.inr ⟨k, hkl, rfl, by rw [rightAt_get hkl]; simp [h4], fun i hi => by rw [rightAt_get (by omega), hok i (by omega)]; simp [lkOk_enum (by omega) h3 i hi]⟩))
    have HS := Lib.hid h5
    clear h2 h3 h4 h5 hok
    gi_wp2
    refine ⟨by simp, .inl ⟨_, _, rfl, run_takeDeferred hKD, ?_⟩⟩
    have h3 := HS.out.turn (B := W0.heap.size) (by have := HSZ.out; omega) (grownBy_putObj' _ D (.deferred none)) (fun r e => by cases e; exact ⟨hD, _, hKD, rfl⟩)
    have c5 := h3.br.cell
    refine ⟨.int .i64 (k : Int), ?_, by rw [HC.out], h3.bel⟩
    simp [results, Tryz.results13, go_sem, c5]
end
/-! ### Wh40 -/
section
open Go.RowKit Go.Shelf
attribute [local go_sem] Oper.semAt_some

set_option maxHeartbeats 1000000 in
theorem energy1_any (b x : Rd) (g : Nat) (s : Int) (w : World) (hg : Boxed w g 3 (.int .i64 s)) (h1 : 0 ≤ s ∧ s ≤ 1000000000000) (h2 : 0 ≤ b.r ∧ b.r ≤ 1000000000) (h3 : 0 ≤ x.r ∧ x.r ≤ 1000000000) :
    Calls Tryz.prog 57 #[rdV b, rdV x, .pointer (some ⟨g, 0, none⟩)] w fun e w' => e = .returned (.tuple #[]) ∧ Boxed w' g 3 (.int .i64 (s + gain b x)) ∧ w.grownBy w' (some g) := by
  have hlt := hg.lt
  have c0 := hg.cell
  have f0 := hg.frozen
  have HG := Lib.hid hg
  clear hg
  by_cases hs : x.s = b.s
  · have hsb : (x.s == b.s) = true := by simpa using hs
    have e0 : gain b x = x.r - b.r := by unfold gain; rw [if_pos hs]
    rw [e0]
    clear e0 hs
    go_enter Tryz.func57, Tryz.ntmps57
    go_wp2
    go_returns
    refine ⟨rfl, ?_, ?_⟩
    · exact ((HG.out.set _).alloc _).alloc _
    · exact (grownBy_setCell' w g _).trans ((World.grownBy_alloc _ _ _).trans (World.grownBy_alloc _ _ _))
  · have hsb : (x.s == b.s) = false := by simpa using hs
    have e0 : gain b x = 0 := by unfold gain; rw [if_neg hs]
    rw [e0, Int.add_zero]
    clear e0 hs
    go_enter Tryz.func57, Tryz.ntmps57
    go_wp2
    go_returns
    exact ⟨rfl, (HG.out.alloc _).alloc _, (World.grownBy_alloc w _ _).trans (World.grownBy_alloc _ _ _)⟩

/-- The count of Energy. -/
structure EnSt (w W : World) (g : Int) : Prop where
  bg : Boxed W w.heap.size 3 (.int .i64 g)
  bel : Below w.heap.size w W
  sz : w.heap.size + 1 < W.heap.size
theorem EnSt.turn {w W W' : World} {g : Int} {B : Nat} (h : EnSt w W g) {row : Option Nat} (hB : w.heap.size ≤ B) (hg : W.grownBy W' row) (hr : ∀ r, row = some r → B ≤ r ∧ ∃ o : Obj, W.heap[r]? = some o ∧ o.isCells = false) : EnSt w W' g :=
  ⟨boxed_turn h.bg hg fun r e => (hr r e).2, h.bel.grown hg h.bel.size (fun k e => Nat.le_trans hB (hr k e).1), Nat.lt_of_lt_of_le h.sz hg.size⟩
theorem EnSt.set {w W : World} {g : Int} (h : EnSt w W g) (g' : Int) : EnSt w (W.setCell ⟨w.heap.size, 0, none⟩ (.int .i64 g')) g' :=
  ⟨h.bg.set _, h.bel.setCell (Nat.le_refl _) _, by rw [World.size_setCell]; exact h.sz⟩

/-- Behind the loop: the block for deferred calls, and what was there. -/
structure EnBe (w W : World) (D : Nat) : Prop where
  d : W.heap[D]? = some (.deferred (some []))
  bel : Below w.heap.size w W
theorem EnBe.later {w W W' : World} {D : Nat} (h : EnBe w W D) (hb : Below W.heap.size W W') : EnBe w W' D := ⟨(hb.block D (Array.getElem?_eq_some_iff.1 h.d).1).trans h.d, below_step h.bel hb⟩
theorem below_grown' {w w1 w2 : World} {b : Nat} (h : Below w.heap.size w w1) (hb : w.heap.size ≤ b) (hg : w1.grownBy w2 (some b)) : Below w.heap.size w w2 :=
  h.grown hg h.size (fun k hk => by cases hk; exact hb)
theorem EnBe.grown {w W W' : World} {D g : Nat} (h : EnBe w W D) (hg : W.grownBy W' (some g)) (hb : w.heap.size ≤ g) (hD : D ≠ g) : EnBe w W' D :=
  ⟨(hg.block D (Array.getElem?_eq_some_iff.1 h.d).1 (fun e => hD (by injection e))).trans h.d, below_grown' h.bel hb hg⟩
theorem EnBe.ends {w W : World} {D : Nat} (h : EnBe w W D) (hD : w.heap.size ≤ D) : Below w.heap.size w (W.putObj D (.deferred none)) :=
  h.bel.grown (grownBy_putObj' W D _) h.bel.size (fun k e => by cases e; exact hD)

theorem ordered_of {l : List Rd} {k : Nat} (hk : k ≤ l.length) (hok : ∀ i, i < k → okAt l i = true) (hend : k = l.length ∨ okAt l k = false) : (k = l.length ∧ ordered l = true) ∨ (k ≠ l.length ∧ ordered l = false) := by
  by_cases h : k = l.length
  · subst h
    exact .inl ⟨rfl, ordered_iff.2 hok⟩
  · refine .inr ⟨h, ?_⟩
    cases ho : ordered l with
    | false => rfl
    | true => have := ordered_iff.1 ho k (by omega); rcases hend with e | e; exact absurd e h; rw [e] at this; cases this

set_option maxRecDepth 100000 in
set_option maxHeartbeats 8000000 in
theorem Energy_any (o : Option Addr) (cap : Nat) (l : List Rd) (a b : Int) (w : World) (hr : Rds w o l) (hl : l.length ≤ 9223372036854775807) : Calls Tryz.prog 27 #[.slice o l.length cap, .int .i64 a, .int .i64 b] w (Ret (enV l a b) w) := by
  have HRD := Lib.hid hr
  have HLOW := Lib.hid hr.lt
  clear hr
  obtain ⟨V, hV⟩ : ∃ V, enV l a b = V := ⟨_, rfl⟩
  rw [hV]
  have HV := Lib.hid hV
  clear hV
  unfold enV enN enOk at HV
  obtain ⟨n, hn⟩ : ∃ n : Nat, 6 ≤ n := ⟨8, by omega⟩
  refine (callsIn_wide (n := n)).1 ?_
  refine callsIn_of_wp_marks Tryz.func27 rfl trivial ?_ rfl
  simp only [Tryz.ntmps27, List.size_toArray, List.length_cons, List.length_nil, Nat.reduceAdd, Nat.reduceSub, Array.replicate_succ, Array.replicate_zero, List.push_toArray, List.append_toArray, List.nil_append, List.cons_append]
  gi_wp2_with fail
  refine inCall (inOrder_any _ _ ⟨_, _, _, rfl⟩) ?_
  rintro e w' ⟨rfl, rfl⟩
  have HST0 : Hid (EnSt w ((w.alloc (.cells #[.int .i64 0] 3)).alloc (.cells #[.slice o l.length cap] 36)) 0) :=
    Lib.hid ⟨(Boxed.new w _ _).alloc _, below_alloc (below_alloc (Below.refl _ _) _) _, by simp⟩
  have HBX : Hid (Blk ((w.alloc (.cells #[.int .i64 0] 3)).alloc (.cells #[.slice o l.length cap] 36)) (w.heap.size + 1) 36 #[.slice o l.length cap]) := by
    have := Blk.new (w.alloc (.cells #[.int .i64 0] 3)) 36 #[.slice o l.length cap]
    rw [World.size_alloc] at this
    exact Lib.hid this
  gi_wp2_with fail
  generalize hW0 : (w.alloc (.cells #[.int .i64 0] 3)).alloc (.cells #[.slice o l.length cap] 36) = W0 at HST0 HBX ⊢
  have hsz : W0.heap.size = w.heap.size + 2 := by rw [← hW0]; simp
  have HSZ := Lib.hid hsz
  clear hW0 hsz
  refine wpIn_rangeFunc_ownH (F := Fence.wide) rfl (by omega) (gf := 54) (lb := #[.pointer (some ⟨w.heap.size + 1, 0, none⟩)]) rfl trivial (enters_of Tryz.func54 (by kernel_rfl) rfl)
    (inOrder_stops (n - 1) (w.heap.size + 1) w.heap.size o cap l hl W0 HLOW.out HBX.out (HRD.out.later HST0.out.bel)) (fun h k => h.trans k)
    (fun W lb ob ob' h1 h2 _ _ => ⟨(Below.refl _ _).grown (grownBy_putObj' W lb ob') (by have := (Array.getElem?_eq_some_iff.1 h2).1; have := HSZ.out; omega) (fun k e => by cases e; have := HSZ.out; omega), World.putObj_heap_other (by have := HSZ.out; omega)⟩)
    (Below.refl _ _) (fun _ => rfl)
    (fun pre W => EnSt w W (pre.length : Nat))
    (fun _ _ _ => False)
    (fun s A B row hs hg hr => hs.turn (by have := HSZ.out; omega) hg hr)
    (fun c s A B row hs hg hr => hs)
    HST0.out
    (fun x a' W => a' = { tmps := #[.slice o l.length cap, .int .i64 a, .int .i64 b, undef, undef, undef, .int .i64 0, .int .i64 0, .pointer (some ⟨w.heap.size, 0, none⟩), undef, undef, undef, .slice o l.length cap, .func (.func 54) #[] #[.pointer (some ⟨w.heap.size + 1, 0, none⟩)], .int .i64 x.1, rdV x.2, undef, undef, undef, undef, undef, undef, undef, undef, undef, undef, undef, undef, undef, undef, undef, undef, undef, undef, undef, undef, undef, undef, undef, undef, undef, undef, undef, undef, undef, undef, undef, undef, undef, undef, undef, undef, undef, undef, undef, undef], defers := [] })
    (fun _ _ _ _ _ _ hs _ _ => hs)
    ?assign ?body ?done ?stop
  case assign =>
    rintro lp pre x W K hi hK
    have HK := Lib.hid hK
    clear hK
    gi_wp2
    exact HK.out _ _ (KeepsFrom.refl _ _) ⟨Below.refl _ _, rfl⟩ hi rfl
  case body =>
    rintro lp pre ⟨i, x⟩ a' W _ _ hst rfl hpl
    have HS := Lib.hid hst
    have cg := hst.bg.cell
    have fg := hst.bg.frozen
    clear hst
    have e1 : IntKind.i64.wrap ((pre.length : Int) + 1) = (pre.length : Int) + 1 := IntWalk.i64_in _ (by omega)
    gi_wp2
    refine ⟨(KeepsOthers.setCell _ _ _).from _, kpt_set (by dsimp only; omega) (by dsimp only; omega) _, ?_⟩
    show EnSt w _ (((pre ++ [(i, x)]).length : Nat) : Int)
    rw [show (((pre ++ [(i, x)]).length : Nat) : Int) = (pre.length : Int) + 1 by simp]
    exact HS.out.set _
  case stop =>
    rintro D c pre W _ _ h _
    exact h.elim
  case done =>
    rintro D xs W hD ⟨k, hk, rfl, hok, hend⟩ hst hKD
    rw [enum_length] at hst
    have HBE : Hid (EnBe w W D) := Lib.hid ⟨hKD, hst.bel⟩
    have hDw : w.heap.size ≤ D := by have := HSZ.out; omega
    have cg := hst.bg.cell
    have HORD := Lib.hid (ordered_of hk hok hend)
    clear hst hKD hok hend
    obtain ⟨q, hq⟩ : ∃ q, ordered l = q := ⟨_, rfl⟩
    rw [hq] at HORD HV
    have HQ := Lib.hid hq
    clear hq
    cases q with
    | false =>
      have hkn : ¬ (k : Int) = (l.length : Int) := by rcases HORD.out with ⟨_, h⟩ | ⟨h, _⟩; cases h; omega
      obtain rfl : .tuple #[.int .i64 0, .int .i64 1] = V := HV.out
      gi_wp2
      refine ⟨by simp, .inl ⟨_, _, rfl, run_takeDeferred HBE.out.d, ?_⟩⟩
      exact ⟨_, by first | (simp [results, Tryz.results27]; done) | (simp [results, Tryz.results27]; rfl), rfl, HBE.out.ends hDw⟩
    | true =>
      obtain rfl : k = l.length := by rcases HORD.out with ⟨h, _⟩ | ⟨_, h⟩; exact h; cases h
      have hl64 := ordered_le HQ.out
      by_cases hc : 1 ≤ a ∧ a ≤ b ∧ b ≤ (l.length : Int)
      · obtain ⟨k1, k2, k3⟩ := hc
        rw [show decide (1 ≤ a ∧ a ≤ b ∧ b ≤ (l.length : Int)) = true by simp [k1, k2, k3]] at HV
        have n1 : decide (a < 1) = false := by simp; omega
        have n2 : decide (b < a) = false := by simp; omega
        have n3 : decide ((l.length : Int) < b) = false := by simp; omega
        obtain ⟨A, hA⟩ : ∃ A : Nat, a = (A : Int) := ⟨a.toNat, by omega⟩
        obtain ⟨E, hE⟩ : ∃ E : Nat, b = (A : Int) + (E : Int) := ⟨(b - a).toNat, by omega⟩
        subst hA hE
        rw [show ((A : Int) + (E : Int) - (A : Int)).toNat = E by omega, Int.toNat_natCast] at HV
        obtain rfl : .tuple #[.int .i64 (energy l A E), .int .i64 0] = V := HV.out
        clear HV
        gi_wp2
        clear n1 n2 n3 cg
        refine wpIn_wide.2 ?_
        have HBE2 : Hid (EnBe w (W.alloc (.cells #[.int .i64 0] 3)) D) := Lib.hid (HBE.out.later (below_alloc (Below.refl _ _) _))
        have hDW : D < W.heap.size := (Array.getElem?_eq_some_iff.1 HBE.out.d).1
        have hWs := HBE.out.bel.size
        go_loopw [11] (fun i wr => ∃ d : Nat, d ≤ E ∧ i = .int .i64 ((A + d : Nat) : Int) ∧ Boxed wr W.heap.size 3 (.int .i64 (energy l A d)) ∧ EnBe w wr D) (fun i _ => A + E - (intOf i).toNat)
        case atStart => exact ⟨0, Nat.zero_le _, rfl, Boxed.new .., HBE2.out⟩
        case round =>
          obtain ⟨d, hd, rfl, hbx, hbe⟩ := hrel
          have HB3 := Lib.hid hbe
          have HBX3 := Lib.hid hbx
          clear hbe hbx HBE2
          have hen := energy_nonneg HQ.out (a := A) (by omega) (d := d) (by omega)
          by_cases hlt : d < E
          · obtain ⟨i, hi⟩ : ∃ i, A + d = i := ⟨_, rfl⟩
            obtain ⟨b1, o1, h1, hx⟩ := (HRD.out.later HB3.out.bel) i (by omega)
            obtain ⟨b2, o2, h2, hy⟩ := (HRD.out.later HB3.out.bel) (i - 1) (by omega)
            rw [h1] at h2
            injection h2 with h2
            injection h2 with h2 h3
            subst h1 h2 h3
            have hgx := getR_range HQ.out (i := i) (by omega)
            have hgy := getR_range HQ.out (i := i - 1) (by omega)
            have HST := Lib.hid (show energy l A (d + 1) = energy l A d + gain (getR l (i - 1)) (getR l i) by rw [energy, hi])
            obtain ⟨x, hxe⟩ : ∃ x, getR l i = x := ⟨_, rfl⟩
            obtain ⟨y, hye⟩ : ∃ y, getR l (i - 1) = y := ⟨_, rfl⟩
            rw [hxe] at hx HST hgx
            rw [hye] at hy HST hgy
            obtain ⟨j, hj⟩ : ∃ j, i - 1 = j := ⟨_, rfl⟩
            rw [hj] at hy
            have HX := Lib.hid hx
            have HY := Lib.hid hy
            clear hxe hye hx hy
            obtain ⟨S, hS⟩ : ∃ S, energy l A d = S := ⟨_, rfl⟩
            rw [hS] at hen HST HBX3
            have y1 : (0 : Int) ≤ (i : Int) := by omega
            have y2 : (i : Int) < (l.length : Int) := by omega
            have y3 : (0 : Int) ≤ (j : Int) := by omega
            have y4 : (j : Int) < (l.length : Int) := by omega
            have e1 : IntKind.i64.wrap ((i : Int) - 1) = (j : Int) := (IntWalk.i64_in _ (by omega)).trans (by omega)
            have hiD : (i : Int) < (A : Int) + (E : Int) := by omega
            rw [hi]
            have HI := Lib.hid (And.intro hi hj)
            have hib : i + 1 ≤ 1000 := by omega
            have hSb : 0 ≤ S ∧ S ≤ 1000000000000 := by omega
            clear hi hj hS hen
            go_wp2
            refine wp_region_B 10 (fun w'' => Below wr.heap.size wr w'') mixed (by kernel_rfl) (below_closed wr) (Below.refl _ _).drew ?_
            simp only [List.take_succ_cons, List.take_zero, List.drop_succ_cons, List.drop_zero]
            intro KR hR
            have HR := Lib.hid hR
            clear hR
            have HCC := Lib.hid (show ∀ w'', Below wr.heap.size wr w'' → w''.cell? ⟨b1, o1 + i * 5, none⟩ = some (.int .i64 x.s) ∧ w''.cell? ⟨b1, o1 + i * 5 + 1, none⟩ = some (.int .i64 x.n) ∧ w''.cell? ⟨b1, o1 + i * 5 + 2, none⟩ = some (.int .i64 x.m) ∧ w''.cell? ⟨b1, o1 + i * 5 + 3, none⟩ = some (.int .i64 x.r) ∧ w''.cell? ⟨b1, o1 + i * 5 + 4, none⟩ = some (.int .u64 x.k) ∧ w''.cell? ⟨b1, o1 + j * 5, none⟩ = some (.int .i64 y.s) ∧ w''.cell? ⟨b1, o1 + j * 5 + 1, none⟩ = some (.int .i64 y.n) ∧ w''.cell? ⟨b1, o1 + j * 5 + 2, none⟩ = some (.int .i64 y.m) ∧ w''.cell? ⟨b1, o1 + j * 5 + 3, none⟩ = some (.int .i64 y.r) ∧ w''.cell? ⟨b1, o1 + j * 5 + 4, none⟩ = some (.int .u64 y.k) from fun w'' hw => ⟨(HX.out.later hw).1, (HX.out.later hw).2.1, (HX.out.later hw).2.2.1, (HX.out.later hw).2.2.2.1, (HX.out.later hw).2.2.2.2, (HY.out.later hw).1, (HY.out.later hw).2.1, (HY.out.later hw).2.2.1, (HY.out.later hw).2.2.2.1, (HY.out.later hw).2.2.2.2⟩)
            repeat (first
              | ((with_reducible refine wpB_skip ?_ ?_); exact rfl; simp only [Act.put, List.setIfInBounds_toArray, List.set_cons_zero, List.set_cons_succ])
              | (apply wpB_val rfl
                 · (intro w' hw'; obtain ⟨c0, c1, c2, c3, c4, c5, c6, c7, c8, c9⟩ := HCC.out w' hw'; go_simp; with_reducible rfl)
                 simp only [Act.put, List.setIfInBounds_toArray, List.set_cons_zero, List.set_cons_succ]))
            refine wpB_nil (HR.out _ (fun w2 hw2 => ?_))
            clear HR HCC
            have HB4 := Lib.hid (HB3.out.later hw2)
            have HBX4 := Lib.hid (boxed_later HBX3.out hw2)
            clear hw2
            go_wp2_with fail
            refine (energy1_any y x W.heap.size S _ HBX4.out hSb hgy hgx).mono ?_
            rintro e w3 ⟨rfl, hbx3, hg3⟩
            rw [← HST.out] at hbx3
            have HBX5 := Lib.hid hbx3
            have HB5 := Lib.hid (HB4.out.grown hg3 hWs (by omega))
            clear hbx3 hg3
            go_wp2
            go_roundw
            case rel =>
              refine ⟨d + 1, by omega, ?_, HBX5.out, HB5.out⟩
              rw [← HI.out.1]; go_num
            case measure => have := HI.out.1; simp [intOf]; omega
          · obtain rfl : d = E := by omega
            have cs := HBX3.out.cell
            go_wp2
            gi_wp2
            refine ⟨by simp, .inl ⟨_, _, rfl, run_takeDeferred HB3.out.d, ?_⟩⟩
            exact ⟨_, by first | (simp [results, Tryz.results27]; done) | (simp [results, Tryz.results27]; rfl), rfl, HB3.out.ends hDw⟩
      · rw [show decide (1 ≤ a ∧ a ≤ b ∧ b ≤ (l.length : Int)) = false by simpa using hc] at HV
        obtain rfl : .tuple #[.int .i64 0, .int .i64 1] = V := HV.out
        gi_wp2
        all_goals first
          | (refine ⟨by simp, .inl ⟨_, _, rfl, run_takeDeferred HBE.out.d, ?_⟩⟩; exact ⟨_, by first | (simp [results, Tryz.results27]; done) | (simp [results, Tryz.results27]; rfl), rfl, HBE.out.ends hDw⟩)
          | (exfalso; omega)
end
/-! ### Stage -/
section
open Go.RowKit

section
variable {P : Program} {ops : Array Oper} {I : Array Bool → World → Prop}

/-- Operation i comes to the value that the frame at the end holds, whichever others have been run. -/
def SettledS (P : Program) (ops : Array Oper) (I : Array Bool → World → Prop) (A : Act) (i : Nat) (o : Oper) : Prop :=
  (Region.wanted o (yielded ops A.tmps) = true → ∃ v, A.put o.dst v = A ∧ ∀ listed w, listed.size = ops.size → listed.getD i true = false → I listed w → Gives P (fun w' => I (listed.setIfInBounds i true) w') v ((execOp A.eval o).run P w)) ∧
  (Region.wanted o (yielded ops A.tmps) = false → A.put o.dst undef = A ∧ ∀ listed w, listed.size = ops.size → listed.getD i true = false → I listed w → I (listed.setIfInBounds i true) w)

theorem wpAny_stage {n : Nat} {A : Act} {Q : Exit → Act → World → Prop} (hB : orderOk ops n = true) (hset : ∀ i o, i < n → ops[i]? = some o → SettledS P ops I A i o)
    (hR : ∀ w, I (finL ops.size n) w → wpList P ops Q (ops.toList.drop n) A w) :
    ∀ (m : Nat) (listed : Array Bool) (a : Act) (w : World), unl n listed = m → Upto ops n A listed a → I listed w → wpAny P .any ops Q (m + (ops.size - n)) listed a w := by
  simp only [orderOk, Bool.and_eq_true, Bool.or_eq_true, decide_eq_true_eq] at hB
  obtain ⟨⟨hI, hT⟩, hseq⟩ := hB
  obtain ⟨hsel, hnle, hback, hdis⟩ := invOk_spec hI
  intro m
  induction m with
  | zero =>
    intro listed a w hm hU hInv
    have hall : ∀ i, i < n → listed.getD i true = true := by
      intro i hi
      unfold unl at hm
      rw [List.countP_eq_zero] at hm
      have := hm i (List.mem_range.2 hi)
      simpa using this
    have ha : a = A := by
      have h1 : a.tmps = A.tmps := by
        apply Array.ext_getElem?
        intro t
        refine hU.agree t (fun j oj hj _ hun => ?_)
        rw [hall j hj] at hun; cases hun
      have h2 := hU.dfs
      cases a; cases A; simp_all
    have hl : listed = finL ops.size n := by
      apply Array.ext_getElem?
      intro i
      rcases Nat.lt_or_ge i ops.size with hi | hi
      · have hi' : i < listed.size := by rw [hU.head.size]; exact hi
        by_cases hin : i < n
        · have := hall i hin
          simp [hi'] at this
          simp [finL, hi, hi', hin, this]
        · have := hU.head.tail i (by omega) hi
          simp [hi'] at this
          simp [finL, hi, hi', hin, this]
      · have hi' : listed.size ≤ i := by rw [hU.head.size]; exact hi
        simp [finL, hi, hi']
    subst ha
    subst hl
    have := wpAny_of_seq (P := P) (md := .any) (Q' := Q) (ops.toList.drop n) n (finL ops.size n) a w (fun j => by simp [List.getElem?_drop]) (by simpa using hseq) (hR w hInv)
    simpa using this
  | succ m ih =>
    intro listed a w hm hU hInv
    have hex : ∃ i, i < n ∧ listed.getD i true = false := by
      have : 0 < unl n listed := by omega
      unfold unl at this
      rw [List.countP_pos_iff] at this
      obtain ⟨i, hi, h⟩ := this
      exact ⟨i, List.mem_range.1 hi, by simpa using h⟩
    have hsmall : ∀ k i, i ≤ k → i < n → listed.getD i true = false → ∃ j, j ∈ Region.ready .any ops listed := by
      intro k
      induction k with
      | zero =>
        intro i hi hin hun
        have hlt : i < ops.size := by omega
        refine ⟨i, mem_ready.2 ⟨hun, ops[i], by simp [hlt], fun e he hbd => ?_⟩⟩
        have := hback i ops[i] (by simp [hlt]) e he hbd
        omega
      | succ k ihk =>
        intro i hi hin hun
        have hlt : i < ops.size := by omega
        by_cases hex2 : ∃ e ∈ (ops[i]).after, Region.binds .any e = true ∧ listed.getD e.on false = false
        · obtain ⟨e, he, hbd, hf⟩ := hex2
          have hlt2 := hback i ops[i] (by simp [hlt]) e he hbd
          exact ihk e.on (by omega) (by omega) (getD_in (by rw [hU.head.size]; omega) hf)
        · refine ⟨i, mem_ready.2 ⟨hun, ops[i], by simp [hlt], fun e he hbd => ?_⟩⟩
          cases hf : listed.getD e.on false with
          | true => rfl
          | false => exact absurd ⟨e, he, hbd, hf⟩ hex2
    obtain ⟨i0, hi0, hun0⟩ := hex
    obtain ⟨j0, hj0⟩ := hsmall i0 i0 (Nat.le_refl _) hi0 hun0
    rw [show m + 1 + (ops.size - n) = (m + (ops.size - n)) + 1 by omega]
    refine ⟨fun h => (by rw [h] at hj0; cases hj0), fun i hi => ?_⟩
    obtain ⟨hiun, oi, hoi, hall⟩ := mem_ready.1 hi
    have hin : i < n := by
      rcases Nat.lt_or_ge i n with h | h
      · exact h
      · have hilt := (Array.getElem?_eq_some_iff.1 hoi).1
        rcases hT with hT | ⟨hs, hc⟩
        · omega
        · exact absurd hi (tail_waits hs hc (by omega) hU.head _ i0 rfl hi0 hun0 i h)
    have hag : ∀ t ∈ oi.looksAt ops, a.tmps[t]? = A.tmps[t]? := by
      intro t ht
      refine hU.agree t (fun j oj hj hoj hun hd => ?_)
      obtain ⟨_, h2⟩ := hdis i oi j oj t hoi hoj hin hj hd
      obtain ⟨hji, hwf⟩ := h2 ht
      obtain ⟨o', ho', e, he, hb, hon⟩ := Region.waitsFor_spec hwf
      have : o' = oi := Option.some.inj (ho'.symm.trans hoi)
      subst this
      have h3 := hall e he hb
      rw [hon, getD_both hun] at h3
      cases h3
    have he := exec_of_agree (ops := ops) (hsel oi (by
      have := Array.mem_of_getElem? hoi
      simpa using this)) hag
    have hwn := wanted_of_agree (ops := ops) hag
    have hU' : ∀ v, A.put oi.dst v = A → Upto ops n A (listed.setIfInBounds i true) (a.put oi.dst v) := by
      intro v hv
      refine ⟨hU.head.set hi hin, by rw [put_defers']; exact hU.dfs, by rw [put_size]; exact hU.sz, fun t ht => ?_⟩
      by_cases hd : oi.dst = some t
      · rw [← hv, hd]
        by_cases hlt : t < a.tmps.size
        · have hlt' : t < A.tmps.size := by rw [← hU.sz]; exact hlt
          simp [Act.put, hlt, hlt']
        · have hlt' : ¬ t < A.tmps.size := by rw [← hU.sz]; exact hlt
          simp [Act.put, hlt, hlt']
      · rw [put_get_ne hd]
        refine hU.agree t (fun j oj hj hoj hun hdj => ?_)
        by_cases hji : j = i
        · subst hji
          have : oj = oi := Option.some.inj (hoj.symm.trans hoi)
          subst this
          exact hd hdj
        · exact ht j oj hj hoj (by rw [getD_set_ne true (Ne.symm hji)]; exact hun) hdj
    have hun' : unl n (listed.setIfInBounds i true) = m := by
      have := unl_set hin hiun
      omega
    have hS := hset i oi hin hoi
    unfold wpOp
    simp only [hoi]
    by_cases hw : Region.wanted oi (yielded ops A.tmps) = true
    · obtain ⟨v, hv, hy⟩ := hS.1 hw
      rw [hwn, if_pos hw]
      refine .inl ?_
      unfold Oper.wp
      rw [he]
      have hg := hy listed w hU.head.size hiun hInv
      generalize (execOp A.eval oi).run P w = r at hg
      cases r with
      | halt x w' => exact hg.elim
      | ok nx w' =>
        cases nx <;> simp only [Gives] at hg <;> simp only [Oper.upon]
        case value u =>
          obtain ⟨rfl, hI'⟩ := hg
          exact ih _ _ _ hun' (hU' _ hv) hI'
        case skip =>
          obtain ⟨rfl, hI'⟩ := hg
          exact ih _ _ _ hun' (hU' _ hv) hI'
        case enter f args =>
          refine Calls.mono hg (fun e w'' ⟨hee, hI'⟩ => ?_)
          subst hee
          exact ih _ _ _ hun' (hU' _ hv) hI'
    · have hw' : Region.wanted oi (yielded ops A.tmps) = false := by simpa using hw
      rw [hwn, if_neg hw]
      exact ih _ _ _ hun' (hU' _ (hS.2 hw').1) ((hS.2 hw').2 listed w hU.head.size hiun hInv)



/-- THE RULE. -/
theorem wp_region_stage {l : List Oper} {id : Nat} {Q : Exit → Act → World → Prop} {a : Act} {w : World} (n : Nat) (A : Act) (I : Array Bool → World → Prop) (hm : P.follows .mixedOrders = true) (hB : orderOk l.toArray n = true)
    (hdf : A.defers = a.defers) (hsz : A.tmps.size = a.tmps.size) (hA : ∀ t, (∀ o ∈ l.take n, o.dst ≠ some t) → A.tmps[t]? = a.tmps[t]?)
    (h0 : I (Array.replicate l.toArray.size false) w.drew) (hset : ∀ i o, i < n → l[i]? = some o → SettledS P l.toArray I A i o)
    (hR : ∀ w', I (finL l.toArray.size n) w' → wpList P l.toArray Q (l.drop n) A w') : (Code.region id l.toArray true).wp P Q a w := by
  obtain ⟨hsel, hnle, hpw, hown, hget⟩ := walk_facts hB
  refine wp_region_any hm ?_
  have := wpAny_stage (P := P) (I := I) (Q := Q) (A := A) hB (fun i o hi ho => hset i o hi (by simpa using ho)) (by simpa using hR) n (Array.replicate l.toArray.size false) a w.drew (unl_none _ _ (by simpa using hnle))
    ⟨⟨by simp, fun j oj _ hl => (by rw [getD_replicate_false] at hl; cases hl), fun t _ ht => getD_in (by simpa using ht) (getD_replicate_false _ _)⟩, hdf.symm, hsz.symm, fun t ht => (hA t (fun o ho hd => by
      obtain ⟨i, hi, hio⟩ := hget o ho
      have hlt : i < l.length := (List.getElem?_eq_some_iff.1 hio).1
      exact ht i o hi (by simpa using hio) (by simp [hlt]) hd)).symm⟩ h0
  have hnl : n ≤ l.toArray.size := by simpa using hnle
  rw [show n + (l.toArray.size - n) = l.toArray.size by omega] at this
  exact this

theorem settledS_mk {A : Act} {i : Nat} {o : Oper} (hg : o.guard = none) (v : Value) (hp : A.put o.dst v = A) (h : ∀ listed w, listed.size = ops.size → listed.getD i true = false → I listed w → Gives P (fun w' => I (listed.setIfInBounds i true) w') v ((execOp A.eval o).run P w)) : SettledS P ops I A i o := by
  have hw : Region.wanted o (yielded ops A.tmps) = true := by simp [Region.wanted, hg]
  exact ⟨fun _ => ⟨v, hp, h⟩, fun hf => by rw [hw] at hf; cases hf⟩

def putAll (puts : List (Tmp × Value)) (a : Act) : Act := puts.foldl (fun a p => a.put (some p.1) p.2) a
theorem putAll_spec : ∀ (puts : List (Tmp × Value)) (a : Act), (putAll puts a).defers = a.defers ∧ (putAll puts a).tmps.size = a.tmps.size ∧ ∀ t, (∀ p ∈ puts, p.1 ≠ t) → (putAll puts a).tmps[t]? = a.tmps[t]?
  | [], a => ⟨rfl, rfl, fun _ _ => rfl⟩
  | p :: r, a => by
    obtain ⟨h1, h2, h3⟩ := putAll_spec r (a.put (some p.1) p.2)
    refine ⟨h1.trans put_defers', h2.trans put_size, fun t ht => ?_⟩
    have h4 := h3 t (fun q hq => ht q (List.mem_cons_of_mem _ hq))
    rw [put_get_ne (fun e => ht p (List.mem_cons_self ..) (by injection e))] at h4
    exact h4

/-- THE RULE, the frame at the end given by the values that were come to. -/
theorem wp_region_puts {l : List Oper} {id : Nat} {Q : Exit → Act → World → Prop} {a : Act} {w : World} (n : Nat) (puts : List (Tmp × Value)) (I : Array Bool → World → Prop) (hm : P.follows .mixedOrders = true) (hB : orderOk l.toArray n = true)
    (hputs : (puts.map (·.1)).all (fun t => (l.take n).any (fun o => o.dst == some t)) = true)
    (h0 : I (Array.replicate l.toArray.size false) w.drew) (hset : ∀ i o, i < n → l[i]? = some o → SettledS P l.toArray I (putAll puts a) i o)
    (hR : ∀ w', I (finL l.toArray.size n) w' → wpList P l.toArray Q (l.drop n) (putAll puts a) w') : (Code.region id l.toArray true).wp P Q a w := by
  obtain ⟨h1, h2, h3⟩ := putAll_spec puts a
  refine wp_region_stage n (putAll puts a) I hm hB h1 h2 (fun t ht => h3 t (fun p hp e => ?_)) h0 hset hR
  subst e
  rw [List.all_eq_true] at hputs
  have := hputs p.1 (List.mem_map.2 ⟨p, hp, rfl⟩)
  obtain ⟨o, ho, he⟩ := List.any_eq_true.1 this
  exact ht o ho (by simpa using he)
end
end
/-! ### Wi40 -/
section
open Go.RowKit
attribute [local go_sem] Oper.semAt_some

/-! ### The cells of readings in a row -/
def rdC (x : Rd) : List Value := [.int .i64 x.s, .int .i64 x.n, .int .i64 x.m, .int .i64 x.r, .int .u64 x.k]
def flat (l : List Rd) : List Value := l.flatMap rdC
theorem flat_cons (x : Rd) (l : List Rd) : flat (x :: l) = rdC x ++ flat l := rfl
theorem flat_length : ∀ l : List Rd, (flat l).length = l.length * 5
  | [] => rfl
  | x :: l => by rw [flat_cons, List.length_append, flat_length l]; simp [rdC]; omega
theorem flat_append (l l' : List Rd) : flat (l ++ l') = flat l ++ flat l' := List.flatMap_append ..
theorem flat_one (x : Rd) : flat [x] = rdC x := by simp [flat]
theorem flat_get : ∀ (l : List Rd) (i j : Nat), i < l.length → j < 5 → (flat l)[i * 5 + j]? = (rdC (getR l i))[j]?
  | [], _, _, h, _ => absurd h (Nat.not_lt_zero _)
  | x :: l, 0, j, _, hj => by
    rw [flat_cons, Nat.zero_mul, Nat.zero_add, List.getElem?_append_left (by simpa [rdC] using hj)]
    rfl
  | x :: l, i + 1, j, hi, hj => by
    rw [flat_cons, List.getElem?_append_right (by simp [rdC]; omega), show (i + 1) * 5 + j - (rdC x).length = i * 5 + j by simp [rdC]; omega, flat_get l i j (by simpa using hi) hj]
    simp [getR]
theorem flat_one' {l : List Rd} {u : Value} (h : u ∈ flat l) : u.oneCell' = true := by
  obtain ⟨x, _, hx⟩ := List.mem_flatMap.1 h
  simp only [rdC, List.mem_cons, List.not_mem_nil, or_false] at hx
  rcases hx with rfl | rfl | rfl | rfl | rfl <;> rfl

theorem rds_flat {w : World} {b off : Nat} {l : List Rd} : Rds w (some ⟨b, off, none⟩) l ↔ ∀ j u, (flat l)[j]? = some u → w.cell? ⟨b, off + j, none⟩ = some u := by
  constructor
  · intro h j u hu
    have hj : j < (flat l).length := (List.getElem?_eq_some_iff.1 hu).1
    rw [flat_length] at hj
    obtain ⟨b', off', e, h0, h1, h2, h3, h4⟩ := h (j / 5) (by omega)
    cases e
    have hm : j % 5 < 5 := Nat.mod_lt _ (by decide)
    have hd := Nat.div_add_mod j 5
    obtain ⟨k, hk⟩ : ∃ k, j % 5 = k := ⟨_, rfl⟩
    have ej : j = j / 5 * 5 + k := by omega
    have hu' := flat_get l (j / 5) k (by omega) (by omega)
    rw [← ej, hu] at hu'
    rw [show off + j = off + j / 5 * 5 + k by omega]
    rcases (show k = 0 ∨ k = 1 ∨ k = 2 ∨ k = 3 ∨ k = 4 by omega) with rfl | rfl | rfl | rfl | rfl <;> simp only [rdC, List.getElem?_cons_zero, List.getElem?_cons_succ, Option.some.injEq] at hu' <;> subst hu' <;> assumption
  · intro h i hi
    refine ⟨b, off, rfl, ?_⟩
    have hh : ∀ k u, k < 5 → (rdC (getR l i))[k]? = some u → w.cell? ⟨b, off + i * 5 + k, none⟩ = some u := fun k u hk hu => by
      rw [Nat.add_assoc]
      exact h _ _ ((flat_get l i k hi hk).trans hu)
    exact ⟨hh 0 _ (by omega) rfl, hh 1 _ (by omega) rfl, hh 2 _ (by omega) rfl, hh 3 _ (by omega) rfl, hh 4 _ (by omega) rfl⟩

theorem below_alloc0 (w : World) (o : Obj) : Below w.heap.size w (w.alloc o) := by go_grown
theorem chk_len {seed : Nat} {l : List Rd} (h : ¬ 0 ≤ chk seed l) : l.length ≤ 64 := by
  rcases chk_is seed l with ⟨_, ha⟩ | ⟨k, _, e, _⟩
  · refine ordered_le (ordered_iff.2 fun i hi => ?_)
    have := ha i hi
    unfold rightAt at this
    rw [Bool.and_eq_true] at this
    exact this.1
  · rw [e] at h; omega

theorem elemRd : ElemI Tryz.prog 36 55 5 40 := ElemI.of (by kernel_rfl) (by kernel_rfl) (by decide)
theorem make_rds (n : Nat) (hn : n ≤ 1000) : ∃ L : List Value, L.length = (n + 1) * 5 ∧ ∀ W : World, (Instr.makeSlice 36 (.int .i64 0) (.int .i64 ((n : Int) + 1))).run Tryz.prog W = .ok (.slice (some ⟨W.heap.size, 0, none⟩) 0 (n + 1)) (W.alloc (.cells L.toArray 55)) := by
  obtain ⟨i, z, h1, h2, h3, h4, h5⟩ := elemRd.info
  refine ⟨(madeCells z.cells ((n + 1) * 5)).toList, by rw [Array.length_toList, size_madeCells], fun W => ?_⟩
  have := run_make W 36 55 i z (by kernel_rfl) h1 h2 .i64 .i64 0 ((n : Int) + 1) (by omega) (by omega) (by rw [h4]; omega) (by omega)
  rw [this, h3, show ((n : Int) + 1).toNat = n + 1 by omega]
  simp

/-- What holds while the region is run: g the block of the reading, B that of the new row, S that of the row of one. -/
structure ApI (w : World) (g B S : Nat) (l : List Rd) (x : Rd) (listed : Array Bool) (W : World) : Prop where
  bel : Below w.heap.size w W
  gx : RdB W g x
  row : ∃ L, Arr W B 55 L ∧ L.length = (l.length + 1) * 5 ∧ (listed.getD 2 false = true → ∀ (j : Nat) (u : Value), (flat l)[j]? = some u → L[j]? = some u)
  sz : listed.getD 4 false = false → W.heap.size = S
  one : listed.getD 4 false = true → Arr W S 55 (rdC x)

theorem getD_other {listed : Array Bool} {i k : Nat} (h : i ≠ k) : (listed.setIfInBounds i true).getD k false = listed.getD k false := by
  simp [Array.getD_eq_getD_getElem?, Array.getElem?_setIfInBounds_ne h]
theorem getD_false {listed : Array Bool} {i : Nat} (h : listed.getD i true = false) : listed.getD i false = false := by
  rw [Array.getD_eq_getD_getElem?] at h ⊢
  cases hh : listed[i]? with
  | none => rfl
  | some b => rw [hh] at h; exact h

section
variable {w W : World} {g B S : Nat} {l : List Rd} {x : Rd} {listed : Array Bool}
theorem ApI.skip (h : ApI w g B S l x listed W) {i : Nat} (h2 : i ≠ 2) (h4 : i ≠ 4) : ApI w g B S l x (listed.setIfInBounds i true) W := by
  obtain ⟨a, b, ⟨L, c1, c2, c3⟩, d, e⟩ := h
  exact ⟨a, b, ⟨L, c1, c2, by rw [getD_other h2]; exact c3⟩, by rw [getD_other h4]; exact d, by rw [getD_other h4]; exact e⟩
theorem ApI.built (h : ApI w g B S l x listed W) (hl : listed.getD 4 true = false) : W.heap.size = S ∧ ApI w g B S l x (listed.setIfInBounds 4 true) (W.alloc (.cells (rdC x).toArray 55)) := by
  obtain ⟨a, b, ⟨L, c1, c2, c3⟩, d, e⟩ := h
  have hS := d (getD_false hl)
  refine ⟨hS, below_step a (below_alloc0 W _), Blk.alloc b _, ⟨L, c1.alloc _, c2, by rw [getD_other (by decide)]; exact c3⟩, fun hf => ?_, fun _ => ?_⟩
  · have h4 : 4 < listed.size := by
      rcases Nat.lt_or_ge 4 listed.size with h | h
      · exact h
      · rw [Array.getD_eq_getD_getElem?, Array.getElem?_eq_none h] at hl; cases hl
    simp [h4] at hf
  · subst hS
    exact Arr.new ..
theorem ApI.copied (h : ApI w g B S l x listed W) (hgB : g ≠ B) (hSB : S ≠ B) (hwB : w.heap.size ≤ B) : ApI w g B S l x (listed.setIfInBounds 2 true) (W.setCells B (0 + 0 * 5) (flat l)) := by
  obtain ⟨a, b, ⟨L, c1, c2, c3⟩, d, e⟩ := h
  obtain ⟨cs', k1, k2, k3⟩ := Blk.setCells (flat l) (0 + 0 * 5) W _ c1
  refine ⟨below_setCells a hwB _ _, (heap_setCells B _ _ W g hgB).trans b, ⟨cs'.toList, by unfold Arr; simpa using k1, by rw [Array.length_toList, k2]; simpa using c2, fun _ j u hu => ?_⟩, ?_, ?_⟩
  · have hj : j < (flat l).length := (List.getElem?_eq_some_iff.1 hu).1
    have hjl : j < L.toArray.size := by rw [flat_length] at hj; simp; omega
    have := k3 j hjl
    rw [if_pos (by omega)] at this
    rw [Array.getElem?_toList, this]
    simpa using hu
  · rw [getD_other (by decide), size_setCells]; exact d
  · rw [getD_other (by decide)]; exact fun h4 => (e h4).otherCells hSB _
end

section
variable {w W : World} {g B S : Nat} {l : List Rd} {x : Rd}
theorem ApI.done (h : ApI w g B S l x (finL 8 5) W) : Rds (W.setCells B (0 + l.length * 5) (rdC x)) (some ⟨B, 0, none⟩) (l ++ [x]) := by
  obtain ⟨a, b, ⟨L, c1, c2, c3⟩, d, e⟩ := h
  have c3 := c3 rfl
  obtain ⟨cs', k1, k2, k3⟩ := Blk.setCells (rdC x) (0 + l.length * 5) W _ c1
  rw [rds_flat]
  intro j u hu
  have hj : j < (flat (l ++ [x])).length := (List.getElem?_eq_some_iff.1 hu).1
  rw [flat_length] at hj
  simp only [List.length_append, List.length_cons, List.length_nil] at hj
  have h5 : (rdC x).length = 5 := rfl
  rw [Blk.cell k1, Nat.zero_add, k3 j (by simp; omega)]
  rw [flat_append, flat_one] at hu
  by_cases hl : j < l.length * 5
  · rw [if_neg (by omega)]
    rw [List.getElem?_append_left (by rw [flat_length]; exact hl)] at hu
    simpa using c3 j u hu
  · rw [if_pos (by omega)]
    rw [List.getElem?_append_right (by rw [flat_length]; omega), flat_length] at hu
    rw [Nat.zero_add]
    exact hu
theorem ApI.spare (h : ApI w g B S l x (finL 8 5) W) : ∀ j, j < (rdC x).length → (W.cell? ⟨B, 0 + l.length * 5 + j, none⟩).isSome = true ∧ W.frozen? ⟨B, 0 + l.length * 5 + j, none⟩ = false := by
  obtain ⟨a, b, ⟨L, c1, c2, c3⟩, d, e⟩ := h
  intro j hj
  have h5 : (rdC x).length = 5 := rfl
  refine ⟨?_, Arr.frozen c1 _⟩
  rw [Arr.cell c1 (List.getElem?_eq_getElem (by omega))]
  rfl
theorem ApI.news (h : ApI w g B S l x (finL 8 5) W) : ∀ (j : Nat) (u : Value), (rdC x)[j]? = some u → W.cell? ((⟨S, 0, none⟩ : Addr).add j) = some u := fun j u hu => by
  rw [Addr.add_lit, Nat.zero_add]
  exact (h.one rfl).cell hu
theorem rdC_one (x : Rd) : ∀ u ∈ rdC x, u.oneCell' = true := fun u hu => flat_one' (l := [x]) (by rw [flat_one]; exact hu)
theorem src_rds {o : Option Addr} {cap : Nat} (h : Rds W o l) : Src Tryz.prog 5 36 (.slice o l.length cap) l.length (flat l) W := by
  cases l with
  | nil =>
    cases o with
    | none => exact Src.ofNil W (e' := 55) (by kernel_rfl) cap
    | some a => exact Src.ofSlice W (e' := 55) (by kernel_rfl) a 0 cap [] rfl (fun j u hu => by simp at hu) (fun u hu => by cases hu)
  | cons y l =>
    obtain ⟨b, off, rfl, _⟩ := h 0 (by simp)
    refine Src.ofSlice W (e' := 55) (by kernel_rfl) _ _ cap _ (flat_length _) (fun j u hu => ?_) (fun u hu => flat_one' hu)
    rw [Addr.add_lit]
    exact rds_flat.1 h j u hu
theorem ApI.append {listed : Array Bool} {o : Option Addr} {cap : Nat} (h : ApI w g B S l x listed W) (hr : Rds w o l) (ty : TypeId) :
    (Builtin.append_ #[36, 36] ty #[.slice (some ⟨B, 0, none⟩) 0 (l.length + 1), .slice o l.length cap]).run Tryz.prog W = .ok (.slice (some ⟨B, 0, none⟩) l.length (l.length + 1)) (W.setCells B (0 + 0 * 5) (flat l)) := by
  obtain ⟨i, z, h1, h2, h3, h4, h5⟩ := elemRd.info
  obtain ⟨a, b, ⟨L, c1, c2, c3⟩, d, e⟩ := h
  have hsrc := src_rds (cap := cap) (hr.later a)
  have := run_append_room_src (P := Tryz.prog) W 36 36 ty 55 i (by kernel_rfl) h1 B 0 0 (l.length + 1) (.slice o l.length cap) l.length (flat l) (by rw [h3]; exact hsrc) (by omega)
    (fun j hj => by
      rw [flat_length] at hj
      rw [h3, Arr.cell c1 (List.getElem?_eq_getElem (by omega))]
      rfl) (fun j hj => Arr.frozen c1 _)
  rw [h3, Nat.zero_add l.length] at this
  exact this
end
theorem gives_of {P : Program} {Q : World → Prop} {v : Value} {r : Result Next} {W : World} (h : r = .ok (.value v) W) (hq : Q W) : Gives P Q v r := by subst h; exact ⟨rfl, hq⟩

theorem wpList_append_room {P : Program} {ops : Array Oper} {rest : List Oper} {o : Oper} {a : Act} {w : World} {Q : Exit → Act → World → Prop}
    (hg : o.guard = none) (s x : Operand) (t : TypeId) (hop : o.op = Op.call { callee := Callee.builtin Builtin.append, args := #[s, x], argTypes := #[t, t] })
    (e : TypeId) (i : TypeInfo) (size : Nat) (h1 : P.underlying t = some (.slice e)) (h2 : P.info? e = some i) (h4 : i.size = size)
    (b off n cap : Nat) (hs : a.eval s = .slice (some ⟨b, off, none⟩) n cap)
    (ad : Addr) (m c : Nat) (news : List Value) (hx : a.eval x = .slice (some ad) m c) (hn : news.length = m * size) (hc : ∀ j u, news[j]? = some u → w.cell? (ad.add j) = some u) (h1c : ∀ u ∈ news, u.oneCell' = true)
    (hroom : n + m ≤ cap) (hspare : ∀ j, j < news.length → (w.cell? ⟨b, off + n * size + j, none⟩).isSome = true ∧ w.frozen? ⟨b, off + n * size + j, none⟩ = false)
    (hK : wpList P ops Q rest (a.put o.dst (.slice (some ⟨b, off, none⟩) (n + m) cap)) (w.setCells b (off + n * size) news)) : wpList P ops Q (o :: rest) a w := by
  have hw : Region.wanted o (yielded ops a.tmps) = true := by simp [Region.wanted, hg]
  have := step_append_room (P := P) (ops := ops) (K := wpList P ops Q rest) (Q := Q) (E := True) hg s x t hop e i size h1 h2 h4 b off n cap hs ad m c news hx hn hc h1c hroom hspare hK
  rw [if_pos hw] at this
  unfold wpList
  rw [if_pos hw]
  exact .inl this

/-! ### What Append answers -/
def newRd (l : List Rd) (s m r : Int) : Rd := ⟨s, IntKind.i64.wrap ((l.length : Int) + 1), m, r, 0, by decide⟩
def apErr (seed : Nat) (l : List Rd) (s m r : Int) : Int :=
  if 0 ≤ chk seed l then 11 else if l.length = 64 then 10 else if validR (newRd l s m r) = false then 1 else
  match prevAt l l.length with | none => 0 | some b => if oldR b (newRd l s m r) then 12 else if laterR b (newRd l s m r) then 6 else 0
def apRd (seed : Nat) (l : List Rd) (s m r : Int) (hs : seed < 18446744073709551616) : Rd :=
  ⟨s, (l.length : Int) + 1, m, r, link (stAt seed l l.length) (newRd l s m r), by
    refine link_lt ?_
    unfold stAt
    split
    · exact hs
    · rename_i b _; exact b.hk⟩
def AppOut (seed : Nat) (l : List Rd) (s m r : Int) (hs : seed < 18446744073709551616) (w : World) (e : Ending) (w' : World) : Prop :=
  Below w.heap.size w w' ∧ ((apErr seed l s m r ≠ 0 ∧ e = .returned (.tuple #[.slice none 0 0, .int .i64 (apErr seed l s m r)])) ∨
    (apErr seed l s m r = 0 ∧ ∃ b cap, w.heap.size ≤ b ∧ l.length + 1 ≤ cap ∧ e = .returned (.tuple #[.slice (some ⟨b, 0, none⟩) (l.length + 1) cap, .int .i64 0]) ∧ Rds w' (some ⟨b, 0, none⟩) (l ++ [apRd seed l s m r hs])))

/-! ### Walks of Append -/
set_option maxRecDepth 100000 in
set_option maxHeartbeats 4000000 in
theorem Append_11 (seed : Nat) (o : Option Addr) (cap : Nat) (l : List Rd) (s m r : Int) (w : World) (hs : seed < 18446744073709551616) (hr : Rds w o l) (hl : l.length ≤ 9223372036854775807) (hc0 : 0 ≤ chk seed l) :
    Calls Tryz.prog 19 #[.int .u64 (seed : Nat), .slice o l.length cap, .int .i64 s, .int .i64 m, .int .i64 r] w (AppOut seed l s m r hs w) := by
  have hE : apErr seed l s m r = 11 := by unfold apErr; rw [if_pos hc0]
  have HE := Lib.hid hE
  clear hE
  have HR := Lib.hid hr
  clear hr
  obtain ⟨Q, hQ⟩ : ∃ Q, AppOut seed l s m r hs w = Q := ⟨_, rfl⟩
  rw [hQ]
  have HQ := Lib.hid hQ
  clear hQ
  go_enter Tryz.func19, Tryz.ntmps19
  go_wp2_with fail
  refine (Check_any seed _ cap l _ hs (HR.out.later (below_alloc0 w _)) hl).mono ?_
  rintro e w1 ⟨rfl, hb1⟩
  have hcb : decide (0 ≤ chk seed l) = true := by simpa using hc0
  have HB := Lib.hid (below_step (below_alloc0 w _) hb1)
  clear hb1
  go_wp2
  rw [← HQ.out]
  refine ⟨?_, .inl ⟨by rw [HE.out]; decide, by rw [HE.out]; rfl⟩⟩
  exact HB.out

set_option maxRecDepth 100000 in
set_option maxHeartbeats 4000000 in
theorem Append_10 (seed : Nat) (o : Option Addr) (cap : Nat) (l : List Rd) (s m r : Int) (w : World) (hs : seed < 18446744073709551616) (hr : Rds w o l) (hl : l.length ≤ 9223372036854775807) (hc0 : ¬ 0 ≤ chk seed l) (h64 : l.length = 64) :
    Calls Tryz.prog 19 #[.int .u64 (seed : Nat), .slice o l.length cap, .int .i64 s, .int .i64 m, .int .i64 r] w (AppOut seed l s m r hs w) := by
  have hlen := (chk_len hc0)
  have e1 : IntKind.i64.wrap ((l.length : Int) + 1) = (l.length : Int) + 1 := IntWalk.i64_in _ (by omega)
  have hcb : decide (0 ≤ chk seed l) = false := by simpa using hc0
  have hE : apErr seed l s m r = 10 := by unfold apErr; rw [if_neg hc0, if_pos h64]
  obtain ⟨x, hx⟩ : ∃ x, newRd l s m r = x := ⟨_, rfl⟩
  have HXX := Lib.hid (show x.s = s ∧ x.n = (l.length : Int) + 1 ∧ x.m = m ∧ x.r = r ∧ x.k = 0 by subst hx; exact ⟨rfl, e1, rfl, rfl, rfl⟩)
  have HX := Lib.hid hx
  clear hx
  have HL := Lib.hid hlen
  clear hlen
  have h64b : ((l.length : Int) == 64) = true := by simp; omega
  clear h64 hc0
  have HE := Lib.hid hE
  clear hE
  have HR := Lib.hid hr
  clear hr
  obtain ⟨Q, hQ⟩ : ∃ Q, AppOut seed l s m r hs w = Q := ⟨_, rfl⟩
  rw [hQ]
  have HQ := Lib.hid hQ
  clear hQ
  go_enter Tryz.func19, Tryz.ntmps19
  go_wp2_with fail
  refine (Check_any seed _ cap l _ hs (HR.out.later (below_alloc0 w _)) hl).mono ?_
  rintro e w1 ⟨rfl, hb1⟩
  have HX1 := Lib.hid (show RdB w1 w.heap.size x from RdB.later (by have := RdB.new w x; obtain ⟨xs, xn, xm, xr, xk⟩ := HXX.out; rw [xs, xn, xm, xr, xk] at this; exact this) hb1)
  have HB := Lib.hid (below_step (below_alloc0 w _) hb1)
  have HS := Lib.hid (show w.heap.size < w1.heap.size from Nat.lt_of_lt_of_le (by rw [World.size_alloc]; omega) hb1.size)
  clear hb1
  go_wp2
  rw [← HQ.out]
  refine ⟨?_, .inl ⟨by rw [HE.out]; decide, by rw [HE.out]; rfl⟩⟩
  exact HB.out

set_option maxRecDepth 100000 in
set_option maxHeartbeats 4000000 in
theorem Append_1 (seed : Nat) (o : Option Addr) (cap : Nat) (l : List Rd) (s m r : Int) (w : World) (hs : seed < 18446744073709551616) (hr : Rds w o l) (hl : l.length ≤ 9223372036854775807) (hc0 : ¬ 0 ≤ chk seed l) (h64 : l.length ≠ 64) (hv : validR (newRd l s m r) = false) :
    Calls Tryz.prog 19 #[.int .u64 (seed : Nat), .slice o l.length cap, .int .i64 s, .int .i64 m, .int .i64 r] w (AppOut seed l s m r hs w) := by
  have hlen := (chk_len hc0)
  have e1 : IntKind.i64.wrap ((l.length : Int) + 1) = (l.length : Int) + 1 := IntWalk.i64_in _ (by omega)
  have hcb : decide (0 ≤ chk seed l) = false := by simpa using hc0
  have hE : apErr seed l s m r = 1 := by unfold apErr; rw [if_neg hc0, if_neg h64, if_pos hv]
  obtain ⟨x, hx⟩ : ∃ x, newRd l s m r = x := ⟨_, rfl⟩
  have HXX := Lib.hid (show x.s = s ∧ x.n = (l.length : Int) + 1 ∧ x.m = m ∧ x.r = r ∧ x.k = 0 by subst hx; exact ⟨rfl, e1, rfl, rfl, rfl⟩)
  have HX := Lib.hid hx
  clear hx
  have HL := Lib.hid hlen
  clear hlen
  rw [HX.out] at hv
  have h64b : ((l.length : Int) == 64) = false := by simp; omega
  clear h64 hc0
  have HE := Lib.hid hE
  clear hE
  have HR := Lib.hid hr
  clear hr
  obtain ⟨Q, hQ⟩ : ∃ Q, AppOut seed l s m r hs w = Q := ⟨_, rfl⟩
  rw [hQ]
  have HQ := Lib.hid hQ
  clear hQ
  go_enter Tryz.func19, Tryz.ntmps19
  go_wp2_with fail
  refine (Check_any seed _ cap l _ hs (HR.out.later (below_alloc0 w _)) hl).mono ?_
  rintro e w1 ⟨rfl, hb1⟩
  have HX1 := Lib.hid (show RdB w1 w.heap.size x from RdB.later (by have := RdB.new w x; obtain ⟨xs, xn, xm, xr, xk⟩ := HXX.out; rw [xs, xn, xm, xr, xk] at this; exact this) hb1)
  have HB := Lib.hid (below_step (below_alloc0 w _) hb1)
  have HS := Lib.hid (show w.heap.size < w1.heap.size from Nat.lt_of_lt_of_le (by rw [World.size_alloc]; omega) hb1.size)
  clear hb1
  obtain ⟨c0, c1, c2, c3, c4⟩ := HX1.out.cells
  go_wp2_with fail
  refine (Calls.mono (show Calls Tryz.prog 31 #[rdV x] w1 (Ret (.bool (validR x)) w1) from valid_any x w1) ?_)
  rintro e w2 ⟨rfl, hb2⟩
  clear c0 c1 c2 c3 c4
  have HX2 := Lib.hid (HX1.out.later hb2)
  have HB2 := Lib.hid (below_step HB.out hb2)
  have HS2 := Lib.hid (Nat.lt_of_lt_of_le HS.out hb2.size)
  clear HX1 HB HS hb2
  rw [hv]
  go_wp2
  rw [← HQ.out]
  refine ⟨?_, .inl ⟨by rw [HE.out]; decide, by rw [HE.out]; rfl⟩⟩
  exact HB2.out

set_option maxRecDepth 100000 in
set_option maxHeartbeats 4000000 in
theorem Append_12 (seed : Nat) (o : Option Addr) (cap : Nat) (l : List Rd) (s m r : Int) (w : World) (hs : seed < 18446744073709551616) (hr : Rds w o l) (hl : l.length ≤ 9223372036854775807) (hc0 : ¬ 0 ≤ chk seed l) (h64 : l.length ≠ 64) (hv : validR (newRd l s m r) = true) (hp : 0 < l.length) (hold : oldR (getR l (l.length - 1)) (newRd l s m r) = true) :
    Calls Tryz.prog 19 #[.int .u64 (seed : Nat), .slice o l.length cap, .int .i64 s, .int .i64 m, .int .i64 r] w (AppOut seed l s m r hs w) := by
  have hprev : prevAt l l.length = some (getR l (l.length - 1)) := by unfold prevAt; rw [if_neg (by omega), getR_some (by omega)]
  obtain ⟨b, off, rfl, hy⟩ := hr (l.length - 1) (by omega)
  obtain ⟨y, hyy⟩ : ∃ y, getR l (l.length - 1) = y := ⟨_, rfl⟩
  rw [hyy] at hy hprev
  rw [hyy] at hold
  have hlen := (chk_len hc0)
  have e1 : IntKind.i64.wrap ((l.length : Int) + 1) = (l.length : Int) + 1 := IntWalk.i64_in _ (by omega)
  have hcb : decide (0 ≤ chk seed l) = false := by simpa using hc0
  have hE : apErr seed l s m r = 12 := by unfold apErr; rw [if_neg hc0, if_neg h64, if_neg (by rw [hv]; decide)]; simp only [hprev]; rw [if_pos hold]
  obtain ⟨x, hx⟩ : ∃ x, newRd l s m r = x := ⟨_, rfl⟩
  have HXX := Lib.hid (show x.s = s ∧ x.n = (l.length : Int) + 1 ∧ x.m = m ∧ x.r = r ∧ x.k = 0 by subst hx; exact ⟨rfl, e1, rfl, rfl, rfl⟩)
  have HX := Lib.hid hx
  clear hx
  have HL := Lib.hid hlen
  clear hlen
  rw [HX.out] at hv
  rw [HX.out] at hold
  obtain ⟨k, hk⟩ : ∃ k : Nat, l.length - 1 = k := ⟨_, rfl⟩
  rw [hk] at hy
  have e2 : IntKind.i64.wrap ((l.length : Int) - 1) = (k : Int) := by rw [IntWalk.i64_in _ (by omega)]; omega
  have y1 : (0 : Int) ≤ (k : Int) := by omega
  have y2 : (k : Int) < (l.length : Int) := by omega
  have hpb : decide (0 < l.length) = true := by simpa using hp
  have HY := Lib.hid hy
  have HP := Lib.hid hprev
  have HZ := Lib.hid (And.intro e2 (And.intro y1 (And.intro y2 hpb)))
  clear hprev hk hyy
  clear hy
  clear e2 y1 y2 hpb hp
  have h64b : ((l.length : Int) == 64) = false := by simp; omega
  clear h64 hc0
  have HE := Lib.hid hE
  clear hE
  have HR := Lib.hid hr
  clear hr
  obtain ⟨Q, hQ⟩ : ∃ Q, AppOut seed l s m r hs w = Q := ⟨_, rfl⟩
  rw [hQ]
  have HQ := Lib.hid hQ
  clear hQ
  go_enter Tryz.func19, Tryz.ntmps19
  go_wp2_with fail
  refine (Check_any seed _ cap l _ hs (HR.out.later (below_alloc0 w _)) hl).mono ?_
  rintro e w1 ⟨rfl, hb1⟩
  have HX1 := Lib.hid (show RdB w1 w.heap.size x from RdB.later (by have := RdB.new w x; obtain ⟨xs, xn, xm, xr, xk⟩ := HXX.out; rw [xs, xn, xm, xr, xk] at this; exact this) hb1)
  have HB := Lib.hid (below_step (below_alloc0 w _) hb1)
  have HS := Lib.hid (show w.heap.size < w1.heap.size from Nat.lt_of_lt_of_le (by rw [World.size_alloc]; omega) hb1.size)
  clear hb1
  obtain ⟨c0, c1, c2, c3, c4⟩ := HX1.out.cells
  go_wp2_with fail
  refine (Calls.mono (show Calls Tryz.prog 31 #[rdV x] w1 (Ret (.bool (validR x)) w1) from valid_any x w1) ?_)
  rintro e w2 ⟨rfl, hb2⟩
  clear c0 c1 c2 c3 c4
  have HX2 := Lib.hid (HX1.out.later hb2)
  have HB2 := Lib.hid (below_step HB.out hb2)
  have HS2 := Lib.hid (Nat.lt_of_lt_of_le HS.out hb2.size)
  clear HX1 HB HS hb2
  rw [hv]
  obtain ⟨e2, y1, y2, hpb⟩ := HZ.out
  obtain ⟨c0, c1, c2, c3, c4⟩ := RdB.cells (show RdB (w2.alloc (.cells #[.int .i64 y.s, .int .i64 y.n, .int .i64 y.m, .int .i64 y.r, .int .u64 y.k] 55)) w.heap.size x from Blk.alloc HX2.out _)
  obtain ⟨g0, g1, g2, g3, g4⟩ := (RdB.new w2 y).cells
  obtain ⟨d0, d1, d2, d3, d4⟩ := HY.out.later HB2.out
  go_wp2_with fail
  refine (Calls.mono (show Calls Tryz.prog 32 #[rdV y, rdV x] (w2.alloc (.cells #[.int .i64 y.s, .int .i64 y.n, .int .i64 y.m, .int .i64 y.r, .int .u64 y.k] 55)) (Ret (.bool (oldR y x)) _) from isOld_any y x _) ?_)
  rintro e w3 ⟨rfl, hb3⟩
  clear c0 c1 c2 c3 c4 d0 d1 d2 d3 d4 g0 g1 g2 g3 g4
  have HY3 := Lib.hid ((RdB.new w2 y).later hb3)
  have hb3 := below_step (below_alloc0 w2 _) hb3
  have HX3 := Lib.hid (HX2.out.later hb3)
  have HB3 := Lib.hid (below_step HB2.out hb3)
  have HSS := Lib.hid (show w.heap.size < w2.heap.size from HS2.out)
  obtain ⟨gy, hgy⟩ : ∃ gy, w2.heap.size = gy := ⟨_, rfl⟩
  rw [hgy] at HY3 HSS ⊢
  clear HX2 HB2 HS2 hb3
  rw [hold]
  go_wp2
  rw [← HQ.out]
  refine ⟨?_, .inl ⟨by rw [HE.out]; decide, by rw [HE.out]; rfl⟩⟩
  exact HB3.out

set_option maxRecDepth 100000 in
set_option maxHeartbeats 4000000 in
theorem Append_6 (seed : Nat) (o : Option Addr) (cap : Nat) (l : List Rd) (s m r : Int) (w : World) (hs : seed < 18446744073709551616) (hr : Rds w o l) (hl : l.length ≤ 9223372036854775807) (hc0 : ¬ 0 ≤ chk seed l) (h64 : l.length ≠ 64) (hv : validR (newRd l s m r) = true) (hp : 0 < l.length) (hold : oldR (getR l (l.length - 1)) (newRd l s m r) = false) (hlat : laterR (getR l (l.length - 1)) (newRd l s m r) = true) :
    Calls Tryz.prog 19 #[.int .u64 (seed : Nat), .slice o l.length cap, .int .i64 s, .int .i64 m, .int .i64 r] w (AppOut seed l s m r hs w) := by
  have hprev : prevAt l l.length = some (getR l (l.length - 1)) := by unfold prevAt; rw [if_neg (by omega), getR_some (by omega)]
  obtain ⟨b, off, rfl, hy⟩ := hr (l.length - 1) (by omega)
  obtain ⟨y, hyy⟩ : ∃ y, getR l (l.length - 1) = y := ⟨_, rfl⟩
  rw [hyy] at hy hprev
  rw [hyy] at hold hlat
  have hlen := (chk_len hc0)
  have e1 : IntKind.i64.wrap ((l.length : Int) + 1) = (l.length : Int) + 1 := IntWalk.i64_in _ (by omega)
  have hcb : decide (0 ≤ chk seed l) = false := by simpa using hc0
  have hE : apErr seed l s m r = 6 := by unfold apErr; rw [if_neg hc0, if_neg h64, if_neg (by rw [hv]; decide)]; simp only [hprev]; rw [if_neg (by rw [hold]; decide), if_pos hlat]
  obtain ⟨x, hx⟩ : ∃ x, newRd l s m r = x := ⟨_, rfl⟩
  have HXX := Lib.hid (show x.s = s ∧ x.n = (l.length : Int) + 1 ∧ x.m = m ∧ x.r = r ∧ x.k = 0 by subst hx; exact ⟨rfl, e1, rfl, rfl, rfl⟩)
  have HX := Lib.hid hx
  clear hx
  have HL := Lib.hid hlen
  clear hlen
  rw [HX.out] at hv
  rw [HX.out] at hold hlat
  obtain ⟨k, hk⟩ : ∃ k : Nat, l.length - 1 = k := ⟨_, rfl⟩
  rw [hk] at hy
  have e2 : IntKind.i64.wrap ((l.length : Int) - 1) = (k : Int) := by rw [IntWalk.i64_in _ (by omega)]; omega
  have y1 : (0 : Int) ≤ (k : Int) := by omega
  have y2 : (k : Int) < (l.length : Int) := by omega
  have hpb : decide (0 < l.length) = true := by simpa using hp
  have HY := Lib.hid hy
  have HP := Lib.hid hprev
  have HZ := Lib.hid (And.intro e2 (And.intro y1 (And.intro y2 hpb)))
  clear hprev hk hyy
  clear hy
  clear e2 y1 y2 hpb hp
  have h64b : ((l.length : Int) == 64) = false := by simp; omega
  clear h64 hc0
  have HE := Lib.hid hE
  clear hE
  have HR := Lib.hid hr
  clear hr
  obtain ⟨Q, hQ⟩ : ∃ Q, AppOut seed l s m r hs w = Q := ⟨_, rfl⟩
  rw [hQ]
  have HQ := Lib.hid hQ
  clear hQ
  go_enter Tryz.func19, Tryz.ntmps19
  go_wp2_with fail
  refine (Check_any seed _ cap l _ hs (HR.out.later (below_alloc0 w _)) hl).mono ?_
  rintro e w1 ⟨rfl, hb1⟩
  have HX1 := Lib.hid (show RdB w1 w.heap.size x from RdB.later (by have := RdB.new w x; obtain ⟨xs, xn, xm, xr, xk⟩ := HXX.out; rw [xs, xn, xm, xr, xk] at this; exact this) hb1)
  have HB := Lib.hid (below_step (below_alloc0 w _) hb1)
  have HS := Lib.hid (show w.heap.size < w1.heap.size from Nat.lt_of_lt_of_le (by rw [World.size_alloc]; omega) hb1.size)
  clear hb1
  obtain ⟨c0, c1, c2, c3, c4⟩ := HX1.out.cells
  go_wp2_with fail
  refine (Calls.mono (show Calls Tryz.prog 31 #[rdV x] w1 (Ret (.bool (validR x)) w1) from valid_any x w1) ?_)
  rintro e w2 ⟨rfl, hb2⟩
  clear c0 c1 c2 c3 c4
  have HX2 := Lib.hid (HX1.out.later hb2)
  have HB2 := Lib.hid (below_step HB.out hb2)
  have HS2 := Lib.hid (Nat.lt_of_lt_of_le HS.out hb2.size)
  clear HX1 HB HS hb2
  rw [hv]
  obtain ⟨e2, y1, y2, hpb⟩ := HZ.out
  obtain ⟨c0, c1, c2, c3, c4⟩ := RdB.cells (show RdB (w2.alloc (.cells #[.int .i64 y.s, .int .i64 y.n, .int .i64 y.m, .int .i64 y.r, .int .u64 y.k] 55)) w.heap.size x from Blk.alloc HX2.out _)
  obtain ⟨g0, g1, g2, g3, g4⟩ := (RdB.new w2 y).cells
  obtain ⟨d0, d1, d2, d3, d4⟩ := HY.out.later HB2.out
  go_wp2_with fail
  refine (Calls.mono (show Calls Tryz.prog 32 #[rdV y, rdV x] (w2.alloc (.cells #[.int .i64 y.s, .int .i64 y.n, .int .i64 y.m, .int .i64 y.r, .int .u64 y.k] 55)) (Ret (.bool (oldR y x)) _) from isOld_any y x _) ?_)
  rintro e w3 ⟨rfl, hb3⟩
  clear c0 c1 c2 c3 c4 d0 d1 d2 d3 d4 g0 g1 g2 g3 g4
  have HY3 := Lib.hid ((RdB.new w2 y).later hb3)
  have hb3 := below_step (below_alloc0 w2 _) hb3
  have HX3 := Lib.hid (HX2.out.later hb3)
  have HB3 := Lib.hid (below_step HB2.out hb3)
  have HSS := Lib.hid (show w.heap.size < w2.heap.size from HS2.out)
  obtain ⟨gy, hgy⟩ : ∃ gy, w2.heap.size = gy := ⟨_, rfl⟩
  rw [hgy] at HY3 HSS ⊢
  clear HX2 HB2 HS2 hb3
  rw [hold]
  obtain ⟨c0, c1, c2, c3, c4⟩ := HX3.out.cells
  obtain ⟨d0, d1, d2, d3, d4⟩ := HY3.out.cells
  go_wp2_with fail
  refine (Calls.mono (show Calls Tryz.prog 33 #[rdV y, rdV x] w3 (Ret (.bool (laterR y x)) w3) from isLater_any y x _) ?_)
  rintro e w4 ⟨rfl, hb4⟩
  clear c0 c1 c2 c3 c4 d0 d1 d2 d3 d4
  have HY4 := Lib.hid (HY3.out.later hb4)
  have HX4 := Lib.hid (HX3.out.later hb4)
  have HB4 := Lib.hid (below_step HB3.out hb4)
  clear HX3 HB3 HY3 hb4
  rw [hlat]
  go_wp2
  rw [← HQ.out]
  refine ⟨?_, .inl ⟨by rw [HE.out]; decide, by rw [HE.out]; rfl⟩⟩
  exact HB4.out

set_option maxRecDepth 100000 in
set_option maxHeartbeats 4000000 in
theorem Append_0 (seed : Nat) (o : Option Addr) (cap : Nat) (l : List Rd) (s m r : Int) (w : World) (hs : seed < 18446744073709551616) (hr : Rds w o l) (hl : l.length ≤ 9223372036854775807) (hc0 : ¬ 0 ≤ chk seed l) (h64 : l.length ≠ 64) (hv : validR (newRd l s m r) = true) (hp : l.length = 0) :
    Calls Tryz.prog 19 #[.int .u64 (seed : Nat), .slice o l.length cap, .int .i64 s, .int .i64 m, .int .i64 r] w (AppOut seed l s m r hs w) := by
  have hprev : prevAt l l.length = none := by unfold prevAt; rw [if_pos hp]
  have hlen := (chk_len hc0)
  have e1 : IntKind.i64.wrap ((l.length : Int) + 1) = (l.length : Int) + 1 := IntWalk.i64_in _ (by omega)
  have hcb : decide (0 ≤ chk seed l) = false := by simpa using hc0
  have hE : apErr seed l s m r = 0 := by unfold apErr; rw [if_neg hc0, if_neg h64, if_neg (by rw [hv]; decide)]; simp only [hprev]
  obtain ⟨x, hx⟩ : ∃ x, newRd l s m r = x := ⟨_, rfl⟩
  have HXX := Lib.hid (show x.s = s ∧ x.n = (l.length : Int) + 1 ∧ x.m = m ∧ x.r = r ∧ x.k = 0 by subst hx; exact ⟨rfl, e1, rfl, rfl, rfl⟩)
  have HX := Lib.hid hx
  clear hx
  have HL := Lib.hid hlen
  clear hlen
  rw [HX.out] at hv
  have HST := Lib.hid (show stAt seed l l.length = seed by unfold stAt; rw [hprev])
  have hpb : decide (0 < l.length) = false := by simp [hp]
  clear hprev
  have h64b : ((l.length : Int) == 64) = false := by simp; omega
  clear h64 hc0
  clear hp
  have HE := Lib.hid hE
  clear hE
  have HR := Lib.hid hr
  clear hr
  obtain ⟨Q, hQ⟩ : ∃ Q, AppOut seed l s m r hs w = Q := ⟨_, rfl⟩
  rw [hQ]
  have HQ := Lib.hid hQ
  clear hQ
  go_enter Tryz.func19, Tryz.ntmps19
  go_wp2_with fail
  refine (Check_any seed _ cap l _ hs (HR.out.later (below_alloc0 w _)) hl).mono ?_
  rintro e w1 ⟨rfl, hb1⟩
  have HX1 := Lib.hid (show RdB w1 w.heap.size x from RdB.later (by have := RdB.new w x; obtain ⟨xs, xn, xm, xr, xk⟩ := HXX.out; rw [xs, xn, xm, xr, xk] at this; exact this) hb1)
  have HB := Lib.hid (below_step (below_alloc0 w _) hb1)
  have HS := Lib.hid (show w.heap.size < w1.heap.size from Nat.lt_of_lt_of_le (by rw [World.size_alloc]; omega) hb1.size)
  clear hb1
  obtain ⟨c0, c1, c2, c3, c4⟩ := HX1.out.cells
  go_wp2_with fail
  refine (Calls.mono (show Calls Tryz.prog 31 #[rdV x] w1 (Ret (.bool (validR x)) w1) from valid_any x w1) ?_)
  rintro e w2 ⟨rfl, hb2⟩
  clear c0 c1 c2 c3 c4
  have HX2 := Lib.hid (HX1.out.later hb2)
  have HB2 := Lib.hid (below_step HB.out hb2)
  have HS2 := Lib.hid (Nat.lt_of_lt_of_le HS.out hb2.size)
  clear HX1 HB HS hb2
  rw [hv]
  obtain ⟨c0, c1, c2, c3, c4⟩ := HX2.out.cells
  go_wp2_with fail
  refine (Calls.mono (show Calls Tryz.prog 25 #[.int .u64 (seed : Nat), rdV x] w2 (Ret (.int .u64 (link seed x : Nat)) w2) from Link_any seed x hs w2) ?_)
  rintro e w5 ⟨rfl, hb5⟩
  have HX5 := Lib.hid (HX2.out.later hb5)
  have HB5 := Lib.hid (below_step HB2.out hb5)
  clear c0 c1 c2 c3 c4 
  clear hb5
  obtain ⟨lk, hlk⟩ : ∃ lk, link seed x = lk := ⟨_, rfl⟩
  rw [hlk]
  obtain ⟨z, hz⟩ : ∃ z, apRd seed l s m r hs = z := ⟨_, rfl⟩
  have HZZ := Lib.hid hz
  have HXZ := Lib.hid (show RdB (w5.setCell ⟨w.heap.size, 4, none⟩ (.int .u64 (lk : Nat))) w.heap.size z from by
    obtain ⟨xs, xn, xm, xr, xk⟩ := HXX.out
    have zs : z.s = x.s ∧ z.n = x.n ∧ z.m = x.m ∧ z.r = x.r ∧ z.k = lk := by
      subst hz
      refine ⟨xs.symm, xn.symm, xm.symm, xr.symm, ?_⟩
      show link (stAt seed l l.length) (newRd l s m r) = lk
      rw [HX.out, ← hlk, HST.out]
    obtain ⟨z1, z2, z3, z4, z5⟩ := zs
    have h := Blk.set HX5.out 4 (.int .u64 (lk : Nat))
    unfold RdB
    rw [z1, z2, z3, z4, z5]
    exact h)
  have HW := Lib.hid (show Below w.heap.size w (w5.setCell ⟨w.heap.size, 4, none⟩ (.int .u64 (lk : Nat))) from HB5.out.setCell (Nat.le_refl _) _)
  have HSZ := Lib.hid (show w.heap.size < w5.heap.size from HX5.out.lt)
  obtain ⟨L, hL, hmk⟩ := make_rds l.length (by have := HL.out; omega)
  have HLL := Lib.hid hL
  have c4 := HX5.out.cells.2.2.2.2
  have f4 := Blk.frozen HX5.out 4
  clear hz hL hlk
  go_wp2_with fail
  clear c4 f4 hmk
  obtain ⟨ii, zz, h1, h2, h3, h4, h5⟩ := elemRd.info
  have HI1 := Lib.hid h1
  have HI3 := Lib.hid h3
  clear h1 h2 h3 h4 h5
  obtain ⟨B, hB⟩ : ∃ B, w5.heap.size = B := ⟨_, rfl⟩
  rw [hB] at HSZ
  have hBB := Lib.hid hB
  have hB2 : (w5.setCell ⟨w.heap.size, 4, none⟩ (.int .u64 (lk : Nat))).heap.size = B := by rw [World.size_setCell]; exact hB
  obtain ⟨w6, hw6⟩ : ∃ w6, w5.setCell ⟨w.heap.size, 4, none⟩ (.int .u64 (lk : Nat)) = w6 := ⟨_, rfl⟩
  rw [hw6] at HXZ HW hB2 ⊢
  try rw [hB]
  have HB2x := Lib.hid hB2
  clear hB hB2 hw6
  refine wp_region_puts 5 [(62, .slice (some ⟨B, 0, none⟩) 0 (l.length + 1)), (63, .slice o l.length cap), (64, .slice (some ⟨B, 0, none⟩) l.length (l.length + 1)), (65, rdV z), (66, .slice (some ⟨B + 1, 0, none⟩) 1 1)] (ApI w w.heap.size B (B + 1) l z) mixed (by kernel_rfl) (by kernel_rfl) ?_ ?_ ?_
  · refine ⟨(below_step HW.out (below_alloc0 _ _)).drew, (Blk.alloc HXZ.out _).drew, ⟨L, ?_, HLL.out, fun h => by simp at h⟩, fun _ => ?_, fun h => by simp at h⟩
    · have := Arr.new w6 55 L
      rw [HB2x.out] at this
      exact this
    · show (w6.alloc _).heap.size = B + 1
      rw [World.size_alloc, HB2x.out]
  · intro i op hi ho
    simp only [putAll, List.foldl, Act.put, List.setIfInBounds_toArray, List.set_cons_zero, List.set_cons_succ]
    rcases (show i = 0 ∨ i = 1 ∨ i = 2 ∨ i = 3 ∨ i = 4 by omega) with rfl | rfl | rfl | rfl | rfl
    · obtain rfl := Option.some.inj ho
      exact settledS_mk rfl _ rfl (fun listed W _ _ hI => gives_of rfl (hI.skip (by decide) (by decide)))
    · obtain rfl := Option.some.inj ho
      exact settledS_mk rfl _ rfl (fun listed W _ _ hI => gives_of rfl (hI.skip (by decide) (by decide)))
    · obtain rfl := Option.some.inj ho
      refine settledS_mk rfl (.slice (some ⟨B, 0, none⟩) l.length (l.length + 1)) rfl (fun listed W _ _ hI => gives_of ?_ (hI.copied (by have := HSZ.out; omega) (by omega) (by have := HSZ.out; omega)))
      have hrun := hI.append (cap := cap) HR.out 36
      simp [execOp, resolve, invoke, builtin, Act.eval, hrun, Result.andThen]
    · obtain rfl := Option.some.inj ho
      refine settledS_mk rfl (rdV z) rfl (fun listed W _ _ hI => gives_of ?_ (hI.skip (by decide) (by decide)))
      obtain ⟨c0, c1, c2, c3, c4⟩ := hI.gx.cells
      go_simp
      try with_reducible rfl
    · obtain rfl := Option.some.inj ho
      refine settledS_mk rfl (.slice (some ⟨B + 1, 0, none⟩) 1 1) rfl (fun listed W _ hun hI => gives_of ?_ (hI.built hun).2)
      have hS := (hI.built hun).1
      go_simp
      rfl
  · intro W hI
    simp only [putAll, List.foldl, Act.put, List.setIfInBounds_toArray, List.set_cons_zero, List.set_cons_succ, List.drop_succ_cons, List.drop_zero]
    have HI := Lib.hid hI
    clear hI
    refine wpList_append_room (by rfl) (.tmp 64) (.tmp 66) 36 (by rfl) 55 ii 5 (by kernel_rfl) HI1.out HI3.out B 0 l.length (l.length + 1) (by rfl) ⟨B + 1, 0, none⟩ 1 1 (rdC z) (by rfl) rfl HI.out.news (rdC_one z) (Nat.le_refl _) HI.out.spare ?_
    obtain ⟨W2, hW2⟩ : ∃ W2, W.setCells B (0 + l.length * 5) (rdC z) = W2 := ⟨_, rfl⟩
    rw [hW2]
    have HW2 := Lib.hid hW2
    clear hW2
    simp only [Act.put, List.setIfInBounds_toArray, List.set_cons_zero, List.set_cons_succ]
    go_wp2
    rw [← HQ.out]
    refine ⟨?_, .inr ⟨HE.out, B, l.length + 1, by have := HSZ.out; omega, Nat.le_refl _, rfl, ?_⟩⟩
    · rw [← HW2.out]
      exact below_setCells HI.out.bel (by have := HSZ.out; omega) _ _
    rw [← HW2.out, HZZ.out]
    exact HI.out.done

set_option maxRecDepth 100000 in
set_option maxHeartbeats 4000000 in
theorem Append_0s (seed : Nat) (o : Option Addr) (cap : Nat) (l : List Rd) (s m r : Int) (w : World) (hs : seed < 18446744073709551616) (hr : Rds w o l) (hl : l.length ≤ 9223372036854775807) (hc0 : ¬ 0 ≤ chk seed l) (h64 : l.length ≠ 64) (hv : validR (newRd l s m r) = true) (hp : 0 < l.length) (hold : oldR (getR l (l.length - 1)) (newRd l s m r) = false) (hlat : laterR (getR l (l.length - 1)) (newRd l s m r) = false) :
    Calls Tryz.prog 19 #[.int .u64 (seed : Nat), .slice o l.length cap, .int .i64 s, .int .i64 m, .int .i64 r] w (AppOut seed l s m r hs w) := by
  have hprev : prevAt l l.length = some (getR l (l.length - 1)) := by unfold prevAt; rw [if_neg (by omega), getR_some (by omega)]
  obtain ⟨b, off, rfl, hy⟩ := hr (l.length - 1) (by omega)
  obtain ⟨y, hyy⟩ : ∃ y, getR l (l.length - 1) = y := ⟨_, rfl⟩
  rw [hyy] at hy hprev
  rw [hyy] at hold hlat
  have hlen := (chk_len hc0)
  have e1 : IntKind.i64.wrap ((l.length : Int) + 1) = (l.length : Int) + 1 := IntWalk.i64_in _ (by omega)
  have hcb : decide (0 ≤ chk seed l) = false := by simpa using hc0
  have hE : apErr seed l s m r = 0 := by unfold apErr; rw [if_neg hc0, if_neg h64, if_neg (by rw [hv]; decide)]; simp only [hprev]; rw [if_neg (by rw [hold]; decide), if_neg (by rw [hlat]; decide)]
  obtain ⟨x, hx⟩ : ∃ x, newRd l s m r = x := ⟨_, rfl⟩
  have HXX := Lib.hid (show x.s = s ∧ x.n = (l.length : Int) + 1 ∧ x.m = m ∧ x.r = r ∧ x.k = 0 by subst hx; exact ⟨rfl, e1, rfl, rfl, rfl⟩)
  have HX := Lib.hid hx
  clear hx
  have HL := Lib.hid hlen
  clear hlen
  rw [HX.out] at hv
  rw [HX.out] at hold hlat
  obtain ⟨k, hk⟩ : ∃ k : Nat, l.length - 1 = k := ⟨_, rfl⟩
  rw [hk] at hy
  have e2 : IntKind.i64.wrap ((l.length : Int) - 1) = (k : Int) := by rw [IntWalk.i64_in _ (by omega)]; omega
  have y1 : (0 : Int) ≤ (k : Int) := by omega
  have y2 : (k : Int) < (l.length : Int) := by omega
  have hpb : decide (0 < l.length) = true := by simpa using hp
  have HY := Lib.hid hy
  have HP := Lib.hid hprev
  have HZ := Lib.hid (And.intro e2 (And.intro y1 (And.intro y2 hpb)))
  clear hprev hk hyy
  clear hy
  clear e2 y1 y2 hpb hp
  have HST := Lib.hid (show stAt seed l l.length = y.k by unfold stAt; rw [HP.out])
  have h64b : ((l.length : Int) == 64) = false := by simp; omega
  clear h64 hc0
  have HE := Lib.hid hE
  clear hE
  have HR := Lib.hid hr
  clear hr
  obtain ⟨Q, hQ⟩ : ∃ Q, AppOut seed l s m r hs w = Q := ⟨_, rfl⟩
  rw [hQ]
  have HQ := Lib.hid hQ
  clear hQ
  go_enter Tryz.func19, Tryz.ntmps19
  go_wp2_with fail
  refine (Check_any seed _ cap l _ hs (HR.out.later (below_alloc0 w _)) hl).mono ?_
  rintro e w1 ⟨rfl, hb1⟩
  have HX1 := Lib.hid (show RdB w1 w.heap.size x from RdB.later (by have := RdB.new w x; obtain ⟨xs, xn, xm, xr, xk⟩ := HXX.out; rw [xs, xn, xm, xr, xk] at this; exact this) hb1)
  have HB := Lib.hid (below_step (below_alloc0 w _) hb1)
  have HS := Lib.hid (show w.heap.size < w1.heap.size from Nat.lt_of_lt_of_le (by rw [World.size_alloc]; omega) hb1.size)
  clear hb1
  obtain ⟨c0, c1, c2, c3, c4⟩ := HX1.out.cells
  go_wp2_with fail
  refine (Calls.mono (show Calls Tryz.prog 31 #[rdV x] w1 (Ret (.bool (validR x)) w1) from valid_any x w1) ?_)
  rintro e w2 ⟨rfl, hb2⟩
  clear c0 c1 c2 c3 c4
  have HX2 := Lib.hid (HX1.out.later hb2)
  have HB2 := Lib.hid (below_step HB.out hb2)
  have HS2 := Lib.hid (Nat.lt_of_lt_of_le HS.out hb2.size)
  clear HX1 HB HS hb2
  rw [hv]
  obtain ⟨e2, y1, y2, hpb⟩ := HZ.out
  obtain ⟨c0, c1, c2, c3, c4⟩ := RdB.cells (show RdB (w2.alloc (.cells #[.int .i64 y.s, .int .i64 y.n, .int .i64 y.m, .int .i64 y.r, .int .u64 y.k] 55)) w.heap.size x from Blk.alloc HX2.out _)
  obtain ⟨g0, g1, g2, g3, g4⟩ := (RdB.new w2 y).cells
  obtain ⟨d0, d1, d2, d3, d4⟩ := HY.out.later HB2.out
  go_wp2_with fail
  refine (Calls.mono (show Calls Tryz.prog 32 #[rdV y, rdV x] (w2.alloc (.cells #[.int .i64 y.s, .int .i64 y.n, .int .i64 y.m, .int .i64 y.r, .int .u64 y.k] 55)) (Ret (.bool (oldR y x)) _) from isOld_any y x _) ?_)
  rintro e w3 ⟨rfl, hb3⟩
  clear c0 c1 c2 c3 c4 d0 d1 d2 d3 d4 g0 g1 g2 g3 g4
  have HY3 := Lib.hid ((RdB.new w2 y).later hb3)
  have hb3 := below_step (below_alloc0 w2 _) hb3
  have HX3 := Lib.hid (HX2.out.later hb3)
  have HB3 := Lib.hid (below_step HB2.out hb3)
  have HSS := Lib.hid (show w.heap.size < w2.heap.size from HS2.out)
  obtain ⟨gy, hgy⟩ : ∃ gy, w2.heap.size = gy := ⟨_, rfl⟩
  rw [hgy] at HY3 HSS ⊢
  clear HX2 HB2 HS2 hb3
  rw [hold]
  obtain ⟨c0, c1, c2, c3, c4⟩ := HX3.out.cells
  obtain ⟨d0, d1, d2, d3, d4⟩ := HY3.out.cells
  go_wp2_with fail
  refine (Calls.mono (show Calls Tryz.prog 33 #[rdV y, rdV x] w3 (Ret (.bool (laterR y x)) w3) from isLater_any y x _) ?_)
  rintro e w4 ⟨rfl, hb4⟩
  clear c0 c1 c2 c3 c4 d0 d1 d2 d3 d4
  have HY4 := Lib.hid (HY3.out.later hb4)
  have HX4 := Lib.hid (HX3.out.later hb4)
  have HB4 := Lib.hid (below_step HB3.out hb4)
  clear HX3 HB3 HY3 hb4
  rw [hlat]
  obtain ⟨c0, c1, c2, c3, c4⟩ := HX4.out.cells
  have d4 := HY4.out.cells.2.2.2.2
  go_wp2_with fail
  refine (Calls.mono (show Calls Tryz.prog 25 #[.int .u64 (y.k : Nat), rdV x] w4 (Ret (.int .u64 (link y.k x : Nat)) w4) from Link_any y.k x y.hk w4) ?_)
  rintro e w5 ⟨rfl, hb5⟩
  have HX5 := Lib.hid (HX4.out.later hb5)
  have HB5 := Lib.hid (below_step HB4.out hb5)
  clear c0 c1 c2 c3 c4 d4
  clear hb5
  obtain ⟨lk, hlk⟩ : ∃ lk, link y.k x = lk := ⟨_, rfl⟩
  rw [hlk]
  obtain ⟨z, hz⟩ : ∃ z, apRd seed l s m r hs = z := ⟨_, rfl⟩
  have HZZ := Lib.hid hz
  have HXZ := Lib.hid (show RdB (w5.setCell ⟨w.heap.size, 4, none⟩ (.int .u64 (lk : Nat))) w.heap.size z from by
    obtain ⟨xs, xn, xm, xr, xk⟩ := HXX.out
    have zs : z.s = x.s ∧ z.n = x.n ∧ z.m = x.m ∧ z.r = x.r ∧ z.k = lk := by
      subst hz
      refine ⟨xs.symm, xn.symm, xm.symm, xr.symm, ?_⟩
      show link (stAt seed l l.length) (newRd l s m r) = lk
      rw [HX.out, ← hlk, HST.out]
    obtain ⟨z1, z2, z3, z4, z5⟩ := zs
    have h := Blk.set HX5.out 4 (.int .u64 (lk : Nat))
    unfold RdB
    rw [z1, z2, z3, z4, z5]
    exact h)
  have HW := Lib.hid (show Below w.heap.size w (w5.setCell ⟨w.heap.size, 4, none⟩ (.int .u64 (lk : Nat))) from HB5.out.setCell (Nat.le_refl _) _)
  have HSZ := Lib.hid (show w.heap.size < w5.heap.size from HX5.out.lt)
  obtain ⟨L, hL, hmk⟩ := make_rds l.length (by have := HL.out; omega)
  have HLL := Lib.hid hL
  have c4 := HX5.out.cells.2.2.2.2
  have f4 := Blk.frozen HX5.out 4
  clear hz hL hlk
  go_wp2_with fail
  clear c4 f4 hmk
  obtain ⟨ii, zz, h1, h2, h3, h4, h5⟩ := elemRd.info
  have HI1 := Lib.hid h1
  have HI3 := Lib.hid h3
  clear h1 h2 h3 h4 h5
  obtain ⟨B, hB⟩ : ∃ B, w5.heap.size = B := ⟨_, rfl⟩
  rw [hB] at HSZ
  have hBB := Lib.hid hB
  have hB2 : (w5.setCell ⟨w.heap.size, 4, none⟩ (.int .u64 (lk : Nat))).heap.size = B := by rw [World.size_setCell]; exact hB
  obtain ⟨w6, hw6⟩ : ∃ w6, w5.setCell ⟨w.heap.size, 4, none⟩ (.int .u64 (lk : Nat)) = w6 := ⟨_, rfl⟩
  rw [hw6] at HXZ HW hB2 ⊢
  try rw [hB]
  have HB2x := Lib.hid hB2
  clear hB hB2 hw6
  refine wp_region_puts 5 [(62, .slice (some ⟨B, 0, none⟩) 0 (l.length + 1)), (63, .slice (some ⟨b, off, none⟩) l.length cap), (64, .slice (some ⟨B, 0, none⟩) l.length (l.length + 1)), (65, rdV z), (66, .slice (some ⟨B + 1, 0, none⟩) 1 1)] (ApI w w.heap.size B (B + 1) l z) mixed (by kernel_rfl) (by kernel_rfl) ?_ ?_ ?_
  · refine ⟨(below_step HW.out (below_alloc0 _ _)).drew, (Blk.alloc HXZ.out _).drew, ⟨L, ?_, HLL.out, fun h => by simp at h⟩, fun _ => ?_, fun h => by simp at h⟩
    · have := Arr.new w6 55 L
      rw [HB2x.out] at this
      exact this
    · show (w6.alloc _).heap.size = B + 1
      rw [World.size_alloc, HB2x.out]
  · intro i op hi ho
    simp only [putAll, List.foldl, Act.put, List.setIfInBounds_toArray, List.set_cons_zero, List.set_cons_succ]
    rcases (show i = 0 ∨ i = 1 ∨ i = 2 ∨ i = 3 ∨ i = 4 by omega) with rfl | rfl | rfl | rfl | rfl
    · obtain rfl := Option.some.inj ho
      exact settledS_mk rfl _ rfl (fun listed W _ _ hI => gives_of rfl (hI.skip (by decide) (by decide)))
    · obtain rfl := Option.some.inj ho
      exact settledS_mk rfl _ rfl (fun listed W _ _ hI => gives_of rfl (hI.skip (by decide) (by decide)))
    · obtain rfl := Option.some.inj ho
      refine settledS_mk rfl (.slice (some ⟨B, 0, none⟩) l.length (l.length + 1)) rfl (fun listed W _ _ hI => gives_of ?_ (hI.copied (by have := HSZ.out; omega) (by omega) (by have := HSZ.out; omega)))
      have hrun := hI.append (cap := cap) HR.out 36
      simp [execOp, resolve, invoke, builtin, Act.eval, hrun, Result.andThen]
    · obtain rfl := Option.some.inj ho
      refine settledS_mk rfl (rdV z) rfl (fun listed W _ _ hI => gives_of ?_ (hI.skip (by decide) (by decide)))
      obtain ⟨c0, c1, c2, c3, c4⟩ := hI.gx.cells
      go_simp
      try with_reducible rfl
    · obtain rfl := Option.some.inj ho
      refine settledS_mk rfl (.slice (some ⟨B + 1, 0, none⟩) 1 1) rfl (fun listed W _ hun hI => gives_of ?_ (hI.built hun).2)
      have hS := (hI.built hun).1
      go_simp
      rfl
  · intro W hI
    simp only [putAll, List.foldl, Act.put, List.setIfInBounds_toArray, List.set_cons_zero, List.set_cons_succ, List.drop_succ_cons, List.drop_zero]
    have HI := Lib.hid hI
    clear hI
    refine wpList_append_room (by rfl) (.tmp 64) (.tmp 66) 36 (by rfl) 55 ii 5 (by kernel_rfl) HI1.out HI3.out B 0 l.length (l.length + 1) (by rfl) ⟨B + 1, 0, none⟩ 1 1 (rdC z) (by rfl) rfl HI.out.news (rdC_one z) (Nat.le_refl _) HI.out.spare ?_
    obtain ⟨W2, hW2⟩ : ∃ W2, W.setCells B (0 + l.length * 5) (rdC z) = W2 := ⟨_, rfl⟩
    rw [hW2]
    have HW2 := Lib.hid hW2
    clear hW2
    simp only [Act.put, List.setIfInBounds_toArray, List.set_cons_zero, List.set_cons_succ]
    go_wp2
    rw [← HQ.out]
    refine ⟨?_, .inr ⟨HE.out, B, l.length + 1, by have := HSZ.out; omega, Nat.le_refl _, rfl, ?_⟩⟩
    · rw [← HW2.out]
      exact below_setCells HI.out.bel (by have := HSZ.out; omega) _ _
    rw [← HW2.out, HZZ.out]
    exact HI.out.done

theorem Append_any (seed : Nat) (o : Option Addr) (cap : Nat) (l : List Rd) (s m r : Int) (w : World) (hs : seed < 18446744073709551616) (hr : Rds w o l) (hl : l.length ≤ 9223372036854775807) :
    Calls Tryz.prog 19 #[.int .u64 (seed : Nat), .slice o l.length cap, .int .i64 s, .int .i64 m, .int .i64 r] w (AppOut seed l s m r hs w) := by
  by_cases hc0 : 0 ≤ chk seed l
  · exact Append_11 seed o cap l s m r w hs hr hl hc0
  by_cases h64 : l.length = 64
  · exact Append_10 seed o cap l s m r w hs hr hl hc0 h64
  cases hv : validR (newRd l s m r) with
  | false => exact Append_1 seed o cap l s m r w hs hr hl hc0 h64 hv
  | true =>
    by_cases hp : l.length = 0
    · exact Append_0 seed o cap l s m r w hs hr hl hc0 h64 hv hp
    cases hold : oldR (getR l (l.length - 1)) (newRd l s m r) with
    | true => exact Append_12 seed o cap l s m r w hs hr hl hc0 h64 hv (by omega) hold
    | false =>
      cases hlat : laterR (getR l (l.length - 1)) (newRd l s m r) with
      | true => exact Append_6 seed o cap l s m r w hs hr hl hc0 h64 hv (by omega) hold hlat
      | false => exact Append_0s seed o cap l s m r w hs hr hl hc0 h64 hv (by omega) hold hlat
end
end Go.Proofs.YtkfmmiekajgdjaaGreat
