/- Chapter 40: changed, ChainLinks. -/
import Derived.Test.YtddbobphmakmmaaWh40
import Derived.Test.YtddbobphmakmmaaPlainC40
import Derived.Laws.BitsAllLaws
import Derived.IntWalk
namespace Go.Proofs.Ytddbobphmakmmaa
open Go.RowKit
attribute [local go_sem] Oper.semAt_some

def dOf (q y : Nat) : Nat := y * 2 ^ (8 * (q % 8))
theorem dOf_lt {q y : Nat} (hy : y < 256) : dOf q y < 18446744073709551616 := by
  unfold dOf
  have h1 : 2 ^ (8 * (q % 8)) ≤ 2 ^ 56 := Nat.pow_le_pow_right (by decide) (by omega)
  calc y * 2 ^ (8 * (q % 8)) ≤ 255 * 2 ^ 56 := Nat.mul_le_mul (by omega) h1
    _ < 18446744073709551616 := by decide
def xorI (n : Int) (D : Nat) : Int := bits .xor .i64 n (IntKind.i64.wrap (D : Int))
theorem wrap_i64_u64 (n : Int) : u64 (IntKind.i64.wrap n) = u64 n := by
  unfold u64
  congr 1
  simp only [IntKind.wrap, IntKind.bits, IntKind.signed, Bool.true_and]
  split <;> omega
theorem ofInt_u64' (n : Int) : (BitVec.ofInt 64 n).toNat = u64 n := by
  rw [BitVec.toNat_ofInt]; rfl
theorem u64_nat {D : Nat} (h : D < 18446744073709551616) : u64 (D : Int) = D := by unfold u64; omega
theorem u64_xorI (n : Int) {D : Nat} (h : D < 18446744073709551616) : u64 (xorI n D) = u64 n ^^^ D := by
  show u64 (IntKind.i64.wrap (((BitVec.ofInt 64 n ^^^ BitVec.ofInt 64 (IntKind.i64.wrap (D : Int))).toNat : Nat) : Int)) = _
  rw [wrap_i64_u64, BitVec.toNat_xor, ofInt_u64', ofInt_u64', wrap_i64_u64, u64_nat h, u64_nat]
  exact Nat.xor_lt_two_pow (n := 64) (u64_lt n) h
/-- The reading with one byte changed. -/
def chg (x : Rd) (which q y : Nat) : Rd :=
  if which % 5 = 0 then { x with s := xorI x.s (dOf q y) } else if which % 5 = 1 then { x with n := xorI x.n (dOf q y) }
  else if which % 5 = 2 then { x with m := xorI x.m (dOf q y) } else if which % 5 = 3 then { x with r := xorI x.r (dOf q y) }
  else { x with k := (x.k ^^^ dOf q y) % 18446744073709551616, hk := Nat.mod_lt _ (by decide) }

theorem chg_off (x : Rd) {which q y : Nat} (hy : y < 256) (h : which % 5 ≠ 4) : NumOff x (chg x which q y) (q % 8) y := by
  have hd := dOf_lt (q := q) hy
  unfold chg NumOff
  rcases (by omega : which % 5 = 0 ∨ which % 5 = 1 ∨ which % 5 = 2 ∨ which % 5 = 3) with h | h | h | h
  · rw [if_pos h]
    exact .inl ⟨u64_xorI x.s hd, rfl, rfl, rfl⟩
  · rw [if_neg (by omega), if_pos h]
    exact .inr (.inl ⟨rfl, u64_xorI x.n hd, rfl, rfl⟩)
  · rw [if_neg (by omega), if_neg (by omega), if_pos h]
    exact .inr (.inr (.inl ⟨rfl, rfl, u64_xorI x.m hd, rfl⟩))
  · rw [if_neg (by omega), if_neg (by omega), if_neg (by omega), if_pos h]
    exact .inr (.inr (.inr ⟨rfl, rfl, rfl, u64_xorI x.r hd⟩))
end Go.Proofs.Ytddbobphmakmmaa
