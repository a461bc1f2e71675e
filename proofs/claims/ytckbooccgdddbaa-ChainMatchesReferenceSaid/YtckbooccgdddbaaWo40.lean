/- Chapter 40: changed, ChainLinks. -/
import Derived.Test.YtckbooccgdddbaaWk40
import Derived.Test.YtckbooccgdddbaaPlainC40
import Derived.Laws.BitsAllLaws
import Derived.IntWalk
namespace Go.Proofs.Ytckbooccgdddbaa
open Go.RowKit
attribute [local go_sem] Oper.semAt_some

def dOf (q y : Nat) : Nat := y * 2 ^ (8 * (q % 8))
theorem dOf_lt {q y : Nat} (hy : y < 256) : dOf q y < 18446744073709551616 := by
  unfold dOf
  have h1 : 2 ^ (8 * (q % 8)) ≤ 2 ^ 56 := Nat.pow_le_pow_right (by decide) (by omega)
  calc y * 2 ^ (8 * (q % 8)) ≤ 255 * 2 ^ 56 := Nat.mul_le_mul (by omega) h1
    _ < 18446744073709551616 := by decide
def xorI (n : Int) (D : Nat) : Int := bits .xor .i64 n (IntKind.i64.wrap (D : Int))
theorem wrap_i64_u64 (n : Int) : u64 (IntKind.i64.wrap n) = u64 n := by
  unfold u64
  congr 1
  simp only [IntKind.wrap, IntKind.bits, IntKind.signed, Bool.true_and]
  split <;> omega
theorem ofInt_u64' (n : Int) : (BitVec.ofInt 64 n).toNat = u64 n := by
  rw [BitVec.toNat_ofInt]; rfl
theorem u64_nat {D : Nat} (h : D < 18446744073709551616) : u64 (D : Int) = D := by unfold u64; omega
theorem u64_xorI (n : Int) {D : Nat} (h : D < 18446744073709551616) : u64 (xorI n D) = u64 n ^^^ D := by
  show u64 (IntKind.i64.wrap (((BitVec.ofInt 64 n ^^^ BitVec.ofInt 64 (IntKind.i64.wrap (D : Int))).toNat : Nat) : Int)) = _
  rw [wrap_i64_u64, BitVec.toNat_xor, ofInt_u64', ofInt_u64', wrap_i64_u64, u64_nat h, u64_nat]
  exact Nat.xor_lt_two_pow (n := 64) (u64_lt n) h
/-- The reading with one byte changed. -/
def chg (x : Rd) (which q y : Nat) : Rd :=
  if which % 5 = 0 then { x with s := xorI x.s (dOf q y) } else if which % 5 = 1 then { x with n := xorI x.n (dOf q y) }
  else if which % 5 = 2 then { x with m := xorI x.m (dOf q y) } else if which % 5 = 3 then { x with r := xorI x.r (dOf q y) }
  else { x with k := (x.k ^^^ dOf q y) % 18446744073709551616, hk := Nat.mod_lt _ (by decide) }

set_option maxRecDepth 100000 in
set_option maxHeartbeats 4000000 in
theorem changed_any (x : Rd) (which q y : Nat) (w : World) (hw : which < 256) (hq : q < 256) (hy : y < 256) :
    Calls Try.prog 21 #[rdV x, .int .u8 (which : Nat), .int .u8 (q : Nat), .int .u8 (y : Nat)] w (Ret (rdV (chg x which q y)) w) := by
  have E0 : IntKind.u64.wrap ((y : Int) * 2 ^ (8 * (q % 8))) = ((dOf q y : Nat) : Int) := by
    have := dOf_lt (q := q) hy
    have e : (y : Int) * 2 ^ (8 * (q % 8)) = ((dOf q y : Nat) : Int) := by unfold dOf; push_cast; rfl
    rw [e, IntKind.wrap_u64]
    omega
  have E1 : wrap64 (IntKind.u64.wrap ((y : Int) * 2 ^ (8 * (q % 8)))) = IntKind.i64.wrap ((dOf q y : Nat) : Int) := by rw [E0, IntWalk.i64_left]
  have E2 : bits .xor .u64 (x.k : Int) (IntKind.u64.wrap ((y : Int) * 2 ^ (8 * (q % 8)))) = (((x.k ^^^ dOf q y) % 18446744073709551616 : Nat) : Int) := by
    have h1 := dOf_lt (q := q) hy
    rw [E0, u64_xor_nat _ _ x.hk h1, Nat.mod_eq_of_lt (Nat.xor_lt_two_pow (n := 64) x.hk h1)]
  clear E0
  rcases (by omega : which % 5 = 0 ∨ which % 5 = 1 ∨ which % 5 = 2 ∨ which % 5 = 3 ∨ which % 5 = 4) with h | h | h | h | h
  · have h5 : (which : Int) % 5 = 0 := by omega
    have HV := Lib.hid (show rdV (chg x which q y) = .agg #[.int .i64 (bits .xor .i64 x.s (wrap64 (IntKind.u64.wrap ((y : Int) * 2 ^ (8 * (q % 8)))))), .int .i64 x.n, .int .i64 x.m, .int .i64 x.r, .int .u64 x.k] by
      unfold chg
      rw [if_pos h, E1]
      rfl)
    clear E1 E2
    go_enter Try.func21, Try.ntmps21
    go_wp2
    rw [HV.out]
    exact bodyPost_ret (v := .agg #[.int .i64 (bits .xor .i64 x.s (wrap64 (IntKind.u64.wrap ((y : Int) * 2 ^ (8 * (q % 8)))))), .int .i64 x.n, .int .i64 x.m, .int .i64 x.r, .int .u64 x.k]) (by simp [results, Try.results21, go_sem]) rfl ⟨rfl, below_alloc (below_alloc (Below.refl _ _) _) _⟩
  · have h5 : (which : Int) % 5 = 1 := by omega
    have HV := Lib.hid (show rdV (chg x which q y) = .agg #[.int .i64 x.s, .int .i64 (bits .xor .i64 x.n (wrap64 (IntKind.u64.wrap ((y : Int) * 2 ^ (8 * (q % 8)))))), .int .i64 x.m, .int .i64 x.r, .int .u64 x.k] by
      unfold chg
      rw [if_neg (show ¬ which % 5 = 0 by omega), if_pos h, E1]
      rfl)
    clear E1 E2
    go_enter Try.func21, Try.ntmps21
    go_wp2
    rw [HV.out]
    exact bodyPost_ret (v := .agg #[.int .i64 x.s, .int .i64 (bits .xor .i64 x.n (wrap64 (IntKind.u64.wrap ((y : Int) * 2 ^ (8 * (q % 8)))))), .int .i64 x.m, .int .i64 x.r, .int .u64 x.k]) (by simp [results, Try.results21, go_sem]) rfl ⟨rfl, below_alloc (below_alloc (Below.refl _ _) _) _⟩
  · have h5 : (which : Int) % 5 = 2 := by omega
    have HV := Lib.hid (show rdV (chg x which q y) = .agg #[.int .i64 x.s, .int .i64 x.n, .int .i64 (bits .xor .i64 x.m (wrap64 (IntKind.u64.wrap ((y : Int) * 2 ^ (8 * (q % 8)))))), .int .i64 x.r, .int .u64 x.k] by
      unfold chg
      rw [if_neg (show ¬ which % 5 = 0 by omega), if_neg (show ¬ which % 5 = 1 by omega), if_pos h, E1]
      rfl)
    clear E1 E2
    go_enter Try.func21, Try.ntmps21
    go_wp2
    rw [HV.out]
    exact bodyPost_ret (v := .agg #[.int .i64 x.s, .int .i64 x.n, .int .i64 (bits .xor .i64 x.m (wrap64 (IntKind.u64.wrap ((y : Int) * 2 ^ (8 * (q % 8)))))), .int .i64 x.r, .int .u64 x.k]) (by simp [results, Try.results21, go_sem]) rfl ⟨rfl, below_alloc (below_alloc (Below.refl _ _) _) _⟩
  · have h5 : (which : Int) % 5 = 3 := by omega
    have HV := Lib.hid (show rdV (chg x which q y) = .agg #[.int .i64 x.s, .int .i64 x.n, .int .i64 x.m, .int .i64 (bits .xor .i64 x.r (wrap64 (IntKind.u64.wrap ((y : Int) * 2 ^ (8 * (q % 8)))))), .int .u64 x.k] by
      unfold chg
      rw [if_neg (show ¬ which % 5 = 0 by omega), if_neg (show ¬ which % 5 = 1 by omega), if_neg (show ¬ which % 5 = 2 by omega), if_pos h, E1]
      rfl)
    clear E1 E2
    go_enter Try.func21, Try.ntmps21
    go_wp2
    rw [HV.out]
    exact bodyPost_ret (v := .agg #[.int .i64 x.s, .int .i64 x.n, .int .i64 x.m, .int .i64 (bits .xor .i64 x.r (wrap64 (IntKind.u64.wrap ((y : Int) * 2 ^ (8 * (q % 8)))))), .int .u64 x.k]) (by simp [results, Try.results21, go_sem]) rfl ⟨rfl, below_alloc (below_alloc (Below.refl _ _) _) _⟩
  · have h5 : (which : Int) % 5 = 4 := by omega
    have HV := Lib.hid (show rdV (chg x which q y) = .agg #[.int .i64 x.s, .int .i64 x.n, .int .i64 x.m, .int .i64 x.r, .int .u64 (bits .xor .u64 x.k (IntKind.u64.wrap ((y : Int) * 2 ^ (8 * (q % 8)))))] by
      unfold chg
      rw [if_neg (show ¬ which % 5 = 0 by omega), if_neg (show ¬ which % 5 = 1 by omega), if_neg (show ¬ which % 5 = 2 by omega), if_neg (show ¬ which % 5 = 3 by omega), E2])
    clear E1 E2
    go_enter Try.func21, Try.ntmps21
    go_wp2
    rw [HV.out]
    exact bodyPost_ret (v := .agg #[.int .i64 x.s, .int .i64 x.n, .int .i64 x.m, .int .i64 x.r, .int .u64 (bits .xor .u64 x.k (IntKind.u64.wrap ((y : Int) * 2 ^ (8 * (q % 8)))))]) (by simp [results, Try.results21, go_sem]) rfl ⟨rfl, below_alloc (below_alloc (Below.refl _ _) _) _⟩

theorem chg_off (x : Rd) {which q y : Nat} (hy : y < 256) (h : which % 5 ≠ 4) : NumOff x (chg x which q y) (q % 8) y := by
  have hd := dOf_lt (q := q) hy
  unfold chg NumOff
  rcases (by omega : which % 5 = 0 ∨ which % 5 = 1 ∨ which % 5 = 2 ∨ which % 5 = 3) with h | h | h | h
  · rw [if_pos h]
    exact .inl ⟨u64_xorI x.s hd, rfl, rfl, rfl⟩
  · rw [if_neg (by omega), if_pos h]
    exact .inr (.inl ⟨rfl, u64_xorI x.n hd, rfl, rfl⟩)
  · rw [if_neg (by omega), if_neg (by omega), if_pos h]
    exact .inr (.inr (.inl ⟨rfl, rfl, u64_xorI x.m hd, rfl⟩))
  · rw [if_neg (by omega), if_neg (by omega), if_neg (by omega), if_pos h]
    exact .inr (.inr (.inr ⟨rfl, rfl, rfl, u64_xorI x.r hd⟩))
end Go.Proofs.Ytckbooccgdddbaa
