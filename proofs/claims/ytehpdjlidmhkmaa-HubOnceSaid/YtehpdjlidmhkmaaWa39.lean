/- Chapter 39: the small functions. -/
import Derived.Test.YtehpdjlidmhkmaaSl
import Derived.Test.YtehpdjlidmhkmaaRows
import Derived.Test.YtehpdjlidmhkmaaKitB
import Derived.Handy
import Derived.Deep.Cut
import Derived.IntWalk
import Derived.Test.YtehpdjlidmhkmaaPlain39
namespace Go.Proofs.Ytehpdjlidmhkmaa
open Go.RowKit

theorem mixed : Try.prog.follows .mixedOrders = true := by kernel_rfl
theorem ret_int {k : IntKind} {a b : Int} (h : a = b) : Ending.returned (.int k a) = .returned (.int k b) := by rw [h]
theorem ret_bool {a b : Bool} (h : a = b) : Ending.returned (.bool a) = .returned (.bool b) := by rw [h]
def inBand (n a b : Int) : Bool := decide (a ≤ n ∧ n ≤ b)

@[reducible] def msgV (m : Msg) : Value := .agg #[.int .i64 m.f, .int .i64 m.n, .int .i64 m.b]
@[reducible] def bxV (b : Bx) (o : Option Addr) (cap : Nat) : Value := .agg #[.int .i64 b.f, .int .i64 b.x, .slice o b.ws.length cap]

set_option maxHeartbeats 400000 in
theorem inside_any (n a b : Int) (w : World) : Calls Try.prog 39 #[.int .i64 n, .int .i64 a, .int .i64 b] w fun e w' => e = .returned (.bool (inBand n a b)) ∧ w' = w := by
  go_enter Try.func39, Try.ntmps39
  go_wp2
  all_goals
    go_ret
    refine ⟨ret_bool ?_, rfl⟩
    rw [Bool.eq_iff_iff]
    simp only [inBand, decide_eq_true_eq, Bool.false_eq_true, false_iff]
    omega

set_option maxHeartbeats 1000000 in
theorem validMessage_any (m : Msg) (w : World) : Calls Try.prog 25 #[msgV m] w (Ret (.bool (validM m)) w) := by
  go_enter Try.func25, Try.ntmps25
  go_wp2_with (go_at_call 39; refine (inside_any _ _ _ _).mono ?_; rintro e w' ⟨rfl, rfl⟩)
  all_goals
    go_ret
    refine ⟨ret_bool ?_, by go_grown⟩
    rw [Bool.eq_iff_iff]
    simp only [validM, inBand, decide_eq_true_eq, decide_eq_false_iff_not, Bool.false_eq_true, false_iff] at *
    omega

set_option maxHeartbeats 1000000 in
theorem refMessage_any (m : Msg) (w : World) : Calls Try.prog 21 #[msgV m] w (Ret (.bool (validM m)) w) := by
  go_enter Try.func21, Try.ntmps21
  go_wp2
  all_goals
    go_ret
    refine ⟨ret_bool ?_, by go_grown⟩
    rw [Bool.eq_iff_iff]
    simp only [validM, decide_eq_true_eq, Bool.false_eq_true, false_iff] at *
    omega

set_option maxHeartbeats 400000 in
theorem fromOf_any (b : Bx) (o : Option Addr) (cap : Nat) (w : World) : Calls Try.prog 27 #[bxV b o cap] w (Ret (.int .i64 b.f) w) := by
  go_enter Try.func27, Try.ntmps27
  go_wp2
  go_ret
  exact ⟨rfl, by go_grown⟩

set_option maxHeartbeats 400000 in
theorem numberOf_any (m : Msg) (w : World) : Calls Try.prog 29 #[msgV m] w (Ret (.int .i64 m.n) w) := by
  go_enter Try.func29, Try.ntmps29
  go_wp2
  go_ret
  exact ⟨rfl, by go_grown⟩
end Go.Proofs.Ytehpdjlidmhkmaa
