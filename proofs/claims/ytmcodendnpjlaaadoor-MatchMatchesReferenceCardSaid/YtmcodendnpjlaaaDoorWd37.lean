/- Chapter 37: cmp.Or of two numbers. -/
import Derived.Test.YtmcodendnpjlaaaDoorWc37
namespace Go.Proofs.YtmcodendnpjlaaaDoor
open Go.RowKit
attribute [local go_sem] Oper.semAt_some

set_option maxHeartbeats 4000000 in
theorem Or_any (g : Nat) (x y : Int) (w : World) (h0 : w.cell? ⟨g, 0, none⟩ = some (.int .i64 x)) (h1 : w.cell? ⟨g, 1, none⟩ = some (.int .i64 y)) : Calls Tryd.prog 40 #[.slice (some ⟨g, 0, none⟩) 2 2] w (Ret (.int .i64 (if x = 0 then y else x)) w) := by
  obtain ⟨D, hD⟩ : ∃ D, (if x = 0 then y else x) = D := ⟨_, rfl⟩
  rw [hD]
  have HD := Lib.hid hD
  clear hD
  go_enter Tryd.func40, Tryd.ntmps40
  go_wp2
  go_loop [8] (fun i => ∃ k : Nat, k ≤ 2 ∧ i = .int .i64 k ∧ (1 ≤ k → x = 0) ∧ (2 ≤ k → y = 0)) (fun i => 2 - (intOf i).toNat)
  case atStart => exact ⟨0, by omega, rfl, fun h => absurd h (by omega), fun h => absurd h (by omega)⟩
  case round =>
    obtain ⟨k, hk, rfl, hx, hy⟩ := hrel
    have hk3 : k = 0 ∨ k = 1 ∨ k = 2 := by omega
    rcases hk3 with rfl | rfl | rfl
    · by_cases hx0 : x = 0
      · subst hx0
        go_wp2
        go_round
        case rel => exact ⟨1, by omega, by go_num, fun _ => (by trivial), fun h => absurd h (by omega)⟩
        case measure => simp [intOf]
      · have hb : (x == 0) = false := by simpa using hx0
        obtain rfl : x = D := by rw [← HD.out, if_neg hx0]
        clear hx hy hx0
        go_wp2
        go_ret
        exact ⟨rfl, Below.refl _ _⟩
    · obtain rfl : x = 0 := hx (by omega)
      clear hx hy
      by_cases hy0 : y = 0
      · subst hy0
        go_wp2
        go_round
        case rel => exact ⟨2, by omega, by go_num, fun _ => (by trivial), fun _ => (by trivial)⟩
        case measure => simp [intOf]
      · have hb : (y == 0) = false := by simpa using hy0
        obtain rfl : y = D := by rw [← HD.out, if_pos rfl]
        clear hy0
        go_wp2
        go_ret
        exact ⟨rfl, Below.refl _ _⟩
    · obtain rfl : x = 0 := hx (by omega)
      obtain rfl : y = 0 := hy (by omega)
      obtain rfl : 0 = D := by rw [← HD.out, if_pos rfl]
      clear hx hy
      go_wp2
      go_ret
      exact ⟨rfl, Below.refl _ _⟩
end Go.Proofs.YtmcodendnpjlaaaDoor
