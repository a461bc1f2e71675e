/- Chapter 37: cmp.Compare, cmp.Or of two numbers. -/
import Derived.Test.YtmcodendnpjlaaaDoorWb37
namespace Go.Proofs.YtmcodendnpjlaaaDoor
open Go.RowKit
attribute [local go_sem] Oper.semAt_some

def cmpI (a b : Int) : Int := if a < b then -1 else if b < a then 1 else 0
set_option maxHeartbeats 2000000 in
theorem isNaN_any (a : Int) (w : World) : Calls Tryd.prog 42 #[.int .i64 a] w (Ret (.bool false) w) := by
  go_enter Tryd.func42, Tryd.ntmps42
  go_wp2
  go_ret
  exact ⟨rfl, Below.refl _ _⟩
set_option maxHeartbeats 4000000 in
theorem Compare_any (a b : Int) (w : World) : Calls Tryd.prog 41 #[.int .i64 a, .int .i64 b] w (Ret (.int .i64 (cmpI a b)) w) := by
  obtain ⟨D, hD⟩ : ∃ D, cmpI a b = D := ⟨_, rfl⟩
  rw [hD]
  have HD := Lib.hid hD
  clear hD
  go_enter Tryd.func41, Tryd.ntmps41
  go_wp2_with fail
  refine (isNaN_any a _).mono ?_
  rintro e x ⟨rfl, hb⟩
  have HB := Lib.hid hb
  clear hb
  go_wp2_with fail
  refine (isNaN_any b _).mono ?_
  rintro e x2 ⟨rfl, hb⟩
  replace HB := Lib.hid (below_step HB.out hb)
  clear hb
  by_cases h1 : a < b
  · obtain rfl : -1 = D := by rw [← HD.out]; simp [cmpI, h1]
    go_wp2
    go_ret
    exact ⟨rfl, HB.out⟩
  by_cases h2 : b < a
  · obtain rfl : 1 = D := by rw [← HD.out]; simp [cmpI, h1, h2]
    go_wp2
    go_ret
    exact ⟨rfl, HB.out⟩
  obtain rfl : 0 = D := by rw [← HD.out]; simp [cmpI, h1, h2]
  go_wp2
  go_ret
  exact ⟨rfl, HB.out⟩
end Go.Proofs.YtmcodendnpjlaaaDoor
