/- A byte of a number of a reading is changed: in plain. -/
import Derived.Test.YtkfmmiekajgdjaaGreatPm43
import Derived.Test.YtkfmmiekajgdjaaGreatWs43
import Derived.Laws.BitsAllLaws
import Derived.IntWalk
namespace Go.Proofs.YtkfmmiekajgdjaaGreat
open Go.RowKit
attribute [local go_sem] Oper.semAt_some

def dOf (q y : Nat) : Nat := y * 2 ^ (8 * (q % 8))
theorem dOf_lt {q y : Nat} (hy : y < 256) : dOf q y < 18446744073709551616 := by
  unfold dOf
  have h1 : 2 ^ (8 * (q % 8)) ≤ 2 ^ 56 := Nat.pow_le_pow_right (by decide) (by omega)
  calc y * 2 ^ (8 * (q % 8)) ≤ 255 * 2 ^ 56 := Nat.mul_le_mul (by omega) h1
    _ < 18446744073709551616 := by decide
def xorI (n : Int) (D : Nat) : Int := bits .xor .i64 n (IntKind.i64.wrap (D : Int))
theorem wrap_i64_u64 (n : Int) : u64 (IntKind.i64.wrap n) = u64 n := by
  unfold u64
  congr 1
  simp only [IntKind.wrap, IntKind.bits, IntKind.signed, Bool.true_and]
  split <;> omega
theorem ofInt_u64' (n : Int) : (BitVec.ofInt 64 n).toNat = u64 n := by
  rw [BitVec.toNat_ofInt]; rfl
theorem u64_nat {D : Nat} (h : D < 18446744073709551616) : u64 (D : Int) = D := by unfold u64; omega
theorem u64_xorI (n : Int) {D : Nat} (h : D < 18446744073709551616) : u64 (xorI n D) = u64 n ^^^ D := by
  show u64 (IntKind.i64.wrap (((BitVec.ofInt 64 n ^^^ BitVec.ofInt 64 (IntKind.i64.wrap (D : Int))).toNat : Nat) : Int)) = _
  rw [wrap_i64_u64, BitVec.toNat_xor, ofInt_u64', ofInt_u64', wrap_i64_u64, u64_nat h, u64_nat]
  exact Nat.xor_lt_two_pow (n := 64) (u64_lt n) h
/-- The reading with one byte changed. -/
def chg (x : Rd) (which q y : Nat) : Rd :=
  if which % 5 = 0 then { x with s := xorI x.s (dOf q y) } else if which % 5 = 1 then { x with n := xorI x.n (dOf q y) }
  else if which % 5 = 2 then { x with m := xorI x.m (dOf q y) } else if which % 5 = 3 then { x with r := xorI x.r (dOf q y) }
  else { x with k := (x.k ^^^ dOf q y) % 18446744073709551616, hk := Nat.mod_lt _ (by decide) }

theorem chg_off (x : Rd) {which q y : Nat} (hy : y < 256) (h : which % 5 ≠ 4) : NumOff x (chg x which q y) (q % 8) y := by
  have hd := dOf_lt (q := q) hy
  unfold chg NumOff
  rcases (by omega : which % 5 = 0 ∨ which % 5 = 1 ∨ which % 5 = 2 ∨ which % 5 = 3) with h | h | h | h
  · rw [if_pos h]
    exact .inl ⟨u64_xorI x.s hd, rfl, rfl, rfl⟩
  · rw [if_neg (by omega), if_pos h]
    exact .inr (.inl ⟨rfl, u64_xorI x.n hd, rfl, rfl⟩)
  · rw [if_neg (by omega), if_neg (by omega), if_pos h]
    exact .inr (.inr (.inl ⟨rfl, rfl, u64_xorI x.m hd, rfl⟩))
  · rw [if_neg (by omega), if_neg (by omega), if_neg (by omega), if_pos h]
    exact .inr (.inr (.inr ⟨rfl, rfl, rfl, u64_xorI x.r hd⟩))
/-- A row of the call's own that holds readings. -/
theorem Row.rds {w2 wr : World} {g cap : Nat} {l : List Rd} (h : Row w2 wr 55 5 (.slice (some ⟨g, 0, none⟩) l.length cap) l.length (flat l)) : Rds wr (some ⟨g, 0, none⟩) l := by
  refine rds_flat.2 (fun j u hj => ?_)
  have hlt : j < l.length * 5 := by
    have := (List.getElem?_eq_some_iff.1 hj).1
    rwa [flat_length] at this
  rw [Nat.zero_add, h.cellAt j hlt]
  exact hj

theorem flat_cells {w : World} {b off : Nat} {l : List Rd} (h : Rds w (some ⟨b, off, none⟩) l) : ∀ j u, (flat l)[j]? = some u → w.cell? ((⟨b, off, none⟩ : Addr).add j) = some u := fun j u hj => by
  rw [Addr.add_lit]
  exact rds_flat.1 h j u hj

/-- A reading that is changed does not have its link any more. -/
theorem chg_wrong (x : Rd) {which q y : Nat} (hy : y < 256) (h0 : 0 < y) {s : Nat} (hs : s < 18446744073709551616) : ¬ (link s (chg x which q y) = link s x ↔ (chg x which q y).k = x.k) := by
  by_cases h : which % 5 = 4
  · have hd := dOf_lt (q := q) hy
    have e : chg x which q y = { x with k := (x.k ^^^ dOf q y) % 18446744073709551616, hk := Nat.mod_lt _ (by decide) } := by
      unfold chg
      rw [if_neg (by omega), if_neg (by omega), if_neg (by omega), if_neg (by omega)]
    intro h1
    have h2 := h1.1 (by rw [e]; exact link_of_nums rfl rfl rfl rfl s)
    rw [e] at h2
    have h3 : (x.k ^^^ dOf q y) % 18446744073709551616 = x.k := h2
    rw [Nat.mod_eq_of_lt (Nat.xor_lt_two_pow (n := 64) x.hk hd)] at h3
    refine xor_self_ne ?_ h3
    unfold dOf
    exact Nat.ne_of_gt (Nat.mul_pos h0 (Nat.pow_pos (by decide)))
  · have hl := link_off (s := s) (k := q % 8) (by omega) hy (chg_off x (which := which) (q := q) hy h) hs
    have hk : (chg x which q y).k = x.k := by
      unfold chg
      split
      · rfl
      split
      · rfl
      split
      · rfl
      split
      · rfl
      · omega
    rw [hl, hk]
    simp only [iff_true]
    omega

theorem flat_set (L : List Rd) {k : Nat} (hk : k < L.length) (z : Rd) : ((((((flat L).set (k * 5) (.int .i64 z.s)).set (k * 5 + 1) (.int .i64 z.n)).set (k * 5 + 2) (.int .i64 z.m)).set (k * 5 + 3) (.int .i64 z.r)).set (k * 5 + 4) (.int .u64 (z.k : Nat))) = flat (L.set k z) := by
  apply List.ext_getElem?
  intro j
  simp only [List.getElem?_set, List.length_set, flat_length]
  by_cases hj : j < L.length * 5
  · have hd : j = (j / 5) * 5 + j % 5 := by omega
    have hq : j / 5 < L.length := by omega
    have hm : j % 5 < 5 := Nat.mod_lt _ (by decide)
    have e1 : (flat (L.set k z))[j]? = (rdC (getR (L.set k z) (j / 5)))[j % 5]? := by
      have := flat_get (L.set k z) (j / 5) (j % 5) (by rw [List.length_set]; exact hq) hm
      rwa [← hd] at this
    have e2 : (flat L)[j]? = (rdC (getR L (j / 5)))[j % 5]? := by
      have := flat_get L (j / 5) (j % 5) hq hm
      rwa [← hd] at this
    rw [e1, e2]
    by_cases hjk : j / 5 = k
    · have e3 : getR (L.set k z) (j / 5) = z := by rw [hjk]; simp [getR, hk]
      rw [e3]
      rcases (by omega : j % 5 = 0 ∨ j % 5 = 1 ∨ j % 5 = 2 ∨ j % 5 = 3 ∨ j % 5 = 4) with h | h | h | h | h
      · rw [if_neg (by omega), if_neg (by omega), if_neg (by omega), if_neg (by omega), if_pos (by omega), if_pos (by omega), h]; rfl
      · rw [if_neg (by omega), if_neg (by omega), if_neg (by omega), if_pos (by omega), if_pos (by omega), h]; rfl
      · rw [if_neg (by omega), if_neg (by omega), if_pos (by omega), if_pos (by omega), h]; rfl
      · rw [if_neg (by omega), if_pos (by omega), if_pos (by omega), h]; rfl
      · rw [if_pos (by omega), if_pos (by omega), h]; rfl
    · have e3 : getR (L.set k z) (j / 5) = getR L (j / 5) := by simp [getR, List.getElem?_set_ne (Ne.symm hjk)]
      rw [e3, if_neg (by omega), if_neg (by omega), if_neg (by omega), if_neg (by omega), if_neg (by omega)]
  · rw [if_neg (by omega), if_neg (by omega), if_neg (by omega), if_neg (by omega), if_neg (by omega), List.getElem?_eq_none (by rw [flat_length]; omega), List.getElem?_eq_none (by rw [flat_length, List.length_set]; omega)]

theorem set_same {L : List Value} {i : Nat} {v : Value} (h : L[i]? = some v) : L.set i v = L := by
  apply List.ext_getElem?
  intro j
  rw [List.getElem?_set]
  split
  · next e =>
    subst e
    split
    · exact h.symm
    · next hl => rw [List.getElem?_eq_none (by omega)]
  · rfl
/-- The cells of a reading in a row. -/
theorem flat_fields {L : List Rd} {k : Nat} (hk : k < L.length) : (flat L)[k * 5]? = some (.int .i64 (getR L k).s) ∧ (flat L)[k * 5 + 1]? = some (.int .i64 (getR L k).n) ∧ (flat L)[k * 5 + 2]? = some (.int .i64 (getR L k).m) ∧ (flat L)[k * 5 + 3]? = some (.int .i64 (getR L k).r) ∧ (flat L)[k * 5 + 4]? = some (.int .u64 ((getR L k).k : Nat)) := by
  have h0 := flat_get L k 0 hk (by decide)
  have h1 := flat_get L k 1 hk (by decide)
  have h2 := flat_get L k 2 hk (by decide)
  have h3 := flat_get L k 3 hk (by decide)
  have h4 := flat_get L k 4 hk (by decide)
  exact ⟨h0, h1, h2, h3, h4⟩
theorem flat_chg {L : List Rd} {k : Nat} (hk : k < L.length) (wh q y : Nat) (hw : wh < 4) :
    (flat L).set (k * 5 + wh) (.int .i64 (if wh = 0 then xorI (getR L k).s (dOf q y) else if wh = 1 then xorI (getR L k).n (dOf q y) else if wh = 2 then xorI (getR L k).m (dOf q y) else xorI (getR L k).r (dOf q y))) = flat (L.set k (chg (getR L k) wh q y)) := by
  obtain ⟨f0, f1, f2, f3, f4⟩ := flat_fields hk
  rw [← flat_set L hk]
  have e : wh % 5 = wh := Nat.mod_eq_of_lt (by omega)
  have ne : ∀ {M : List Value} {i j : Nat} {u v : Value}, M[j]? = some u → i ≠ j → (M.set i v)[j]? = some u := fun h hij => by rw [List.getElem?_set_ne hij]; exact h
  rcases (by omega : wh = 0 ∨ wh = 1 ∨ wh = 2 ∨ wh = 3) with rfl | rfl | rfl | rfl
  · simp only [chg, Nat.zero_mod, if_true, Nat.add_zero]
    rw [set_same (i := k * 5 + 1) (ne f1 (by omega)), set_same (i := k * 5 + 2) (ne f2 (by omega)), set_same (i := k * 5 + 3) (ne f3 (by omega)), set_same (i := k * 5 + 4) (ne f4 (by omega))]
  · simp only [chg, (by decide : 1 % 5 = 1), (by decide : ¬ (1 : Nat) = 0), if_true, if_false]
    rw [set_same f0, set_same (i := k * 5 + 2) (ne f2 (by omega)), set_same (i := k * 5 + 3) (ne f3 (by omega)), set_same (i := k * 5 + 4) (ne f4 (by omega))]
  · simp only [chg, (by decide : 2 % 5 = 2), (by decide : ¬ (2 : Nat) = 0), (by decide : ¬ (2 : Nat) = 1), if_true, if_false]
    rw [set_same f0, set_same f1, set_same (i := k * 5 + 3) (ne f3 (by omega)), set_same (i := k * 5 + 4) (ne f4 (by omega))]
  · simp only [chg, (by decide : 3 % 5 = 3), (by decide : ¬ (3 : Nat) = 0), (by decide : ¬ (3 : Nat) = 1), (by decide : ¬ (3 : Nat) = 2), if_true, if_false]
    rw [set_same f0, set_same f1, set_same f2, set_same (i := k * 5 + 4) (ne f4 (by omega))]
theorem chg_ne {x : Rd} {wh q y : Nat} (hy : y < 256) (h0 : 0 < y) : x ≠ chg x wh q y := fun e => by
  have := chg_wrong x (which := wh) (q := q) hy h0 (s := 0) (by decide)
  rw [← e] at this
  exact this (Iff.intro (fun _ => rfl) (fun _ => rfl))
/-- What an accepted claim with a changed reading answers. -/
theorem disputed {c : ClA} {k wh q y : Nat} (hs : c.seed < 18446744073709551616) (hv : verA c = 0) (hk : k < c.rds.length) (hy : y < 256) (h0 : 0 < y) : chk c.seed (c.rds.set k (chg (getR c.rds k) wh q y)) = (k : Int) ∧ c.rds.length ≤ 64 ∧ ∀ (o : Option Addr) (cap : Nat), verA { c with od := o, cd := cap, rds := c.rds.set k (chg (getR c.rds k) wh q y) } = 1 := by
  have hch : chainedA c.seed c.rds = true := by
    cases h : chainedA c.seed c.rds with
    | true => rfl
    | false => rw [verA_def, if_pos h] at hv; cases hv
  obtain ⟨h1, h64, hc⟩ := (chained_iff _ _).1 hch
  have hck : chk c.seed (c.rds.set k (chg (getR c.rds k) wh q y)) = (k : Int) := chk_off (x' := chg (getR c.rds k) wh q y) hk hc (fun s hs' => by rw [hs', ← getR_eq hk]; exact chg_wrong _ hy h0 (stAt_lt hs c.rds k))
  refine ⟨hck, h64, fun o cap => ?_⟩
  have hno : chainedA c.seed (c.rds.set k (chg (getR c.rds k) wh q y)) = false := by
    rw [← Bool.not_eq_true, chained_iff]
    rintro ⟨_, _, h3⟩
    rw [hck] at h3
    omega
  rw [verA_def, if_pos hno]
theorem getR_set_ne {L : List Rd} {k j : Nat} {z : Rd} (h : j < k) : getR L j = getR (L.set k z) j := by
  unfold getR
  rw [List.getD_eq_getElem?_getD, List.getD_eq_getElem?_getD, List.getElem?_set_ne (by omega)]
theorem getR_set_self {L : List Rd} {k : Nat} {z : Rd} (h : k < L.length) : getR (L.set k z) k = z := by
  unfold getR
  rw [List.getD_eq_getElem?_getD, List.getElem?_set_self h]
  rfl
end Go.Proofs.YtkfmmiekajgdjaaGreat
