/- Chapter 41: the small functions of record and of its reference. -/
import Derived.Test.YtddbobphmakmmaaWb40
import Derived.Test.YtddbobphmakmmaaPlain41
namespace Go.Proofs.Ytddbobphmakmmaa
open Go.RowKit
attribute [local go_sem] Oper.semAt_some

@[reducible] def recV (r : Rc) : Value := .agg #[.int .i64 r.se, .int .i64 r.ch, .int .i64 r.ca, .int .i64 r.ho, .int .i64 r.hs, .int .i64 r.fi, .int .i64 r.la, .int .i64 r.en, .int .i64 r.am, .int .u64 (r.g0 : Nat), .int .u64 (r.g1 : Nat), .int .u64 (r.g2 : Nat), .int .u64 (r.g3 : Nat)]
@[reducible] def keyV (k : K4) : Value := .agg #[.int .u64 (k.k0 : Nat), .int .u64 (k.k1 : Nat), .int .u64 (k.k2 : Nat), .int .u64 (k.k3 : Nat)]

set_option maxHeartbeats 400000 in
theorem rinside_any (n a b : Int) (w : World) : Calls Try.prog 29 #[.int .i64 n, .int .i64 a, .int .i64 b] w fun e w' => e = .returned (.bool (inBand n a b)) ∧ w' = w := by
  go_enter Try.func29, Try.ntmps29
  go_wp2
  all_goals
    go_ret
    refine ⟨ret_bool ?_, rfl⟩
    rw [Bool.eq_iff_iff]
    simp only [inBand, decide_eq_true_eq, Bool.false_eq_true, false_iff]
    omega

set_option maxHeartbeats 4000000 in
theorem rvalid_any (r : Rc) (w : World) : Calls Try.prog 20 #[recV r] w (Ret (.bool (validC r)) w) := by
  go_enter Try.func20, Try.ntmps20
  go_wp2_with (go_at_call 29; refine (rinside_any _ _ _ _).mono ?_; rintro e w' ⟨rfl, rfl⟩)
  all_goals
    go_ret
    refine ⟨ret_bool ?_, by go_grown⟩
    rw [Bool.eq_iff_iff]
    simp only [validC, inBand, decide_eq_true_eq, decide_eq_false_iff_not, Bool.false_eq_true, false_iff] at *
    omega

set_option maxHeartbeats 4000000 in
theorem rrefValid_any (r : Rc) (w : World) : Calls Try.prog 17 #[recV r] w (Ret (.bool (validC r)) w) := by
  go_enter Try.func17, Try.ntmps17
  go_wp2
  all_goals
    go_ret
    refine ⟨ret_bool ?_, by go_grown⟩
    rw [Bool.eq_iff_iff]
    simp only [validC, decide_eq_true_eq, Bool.false_eq_true, false_iff] at *
    omega
end Go.Proofs.Ytddbobphmakmmaa
