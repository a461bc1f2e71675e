/- Chapter 26: the small functions. -/
import Derived.Test.YtgjnekfmnepjeaaSl
import Derived.Test.YtgjnekfmnepjeaaRows
import Derived.Handy
import Derived.Deep.RegionWith
import Derived.Deep.QuietTactic
import Derived.BigQuiet
import Derived.Test.YtgjnekfmnepjeaaPlain26
namespace Go.Proofs.Ytgjnekfmnepjeaa
open Go.RowKit

set_option maxHeartbeats 400000 in
theorem inside_any (n a b : Int) (w : World) : Calls Try.prog 24 #[.int .i64 n, .int .i64 a, .int .i64 b] w fun e w' => e = .returned (.bool (inBand n a b)) ∧ w' = w := by
  by_cases h1 : a ≤ n
  · by_cases h2 : n ≤ b
    · have hx : inBand n a b = true := by simp [inBand, h1, h2]
      rw [hx]
      go_enter Try.func24, Try.ntmps24
      go_wp2
      go_ret
      exact ⟨rfl, rfl⟩
    · have hx : inBand n a b = false := by simp [inBand, h2]
      rw [hx]
      go_enter Try.func24, Try.ntmps24
      go_wp2
      go_ret
      exact ⟨rfl, rfl⟩
  · have hx : inBand n a b = false := by simp [inBand, h1]
    rw [hx]
    go_enter Try.func24, Try.ntmps24
    go_wp2
    go_ret
    exact ⟨rfl, rfl⟩

set_option maxHeartbeats 400000 in
theorem refOffset_any (n : Int) (w : World) : Calls Try.prog 33 #[.int .i64 n] w fun e w' => e = .returned (.bool (inBand n (-1440) 1440)) ∧ w' = w := by
  by_cases h1 : -1440 ≤ n
  · by_cases h2 : n ≤ 1440
    · have hx : inBand n (-1440) 1440 = true := by simp [inBand, h1, h2]
      rw [hx]
      go_enter Try.func33, Try.ntmps33
      go_wp2
      go_ret
      exact ⟨rfl, rfl⟩
    · have hx : inBand n (-1440) 1440 = false := by simp [inBand, h2]
      rw [hx]
      go_enter Try.func33, Try.ntmps33
      go_wp2
      go_ret
      exact ⟨rfl, rfl⟩
  · have hx : inBand n (-1440) 1440 = false := by simp [inBand, h1]
    rw [hx]
    go_enter Try.func33, Try.ntmps33
    go_wp2
    go_ret
    exact ⟨rfl, rfl⟩

set_option maxHeartbeats 400000 in
theorem keys_any (w : World) : Calls Try.prog 25 #[] w fun e w' => e = .returned (.tuple #[.func (.func 34) #[] #[], .func (.func 35) #[] #[]]) ∧ w' = w := by
  go_enter Try.func25, Try.ntmps25
  go_wp2
  go_ret2
  exact ⟨rfl, rfl⟩

set_option maxHeartbeats 400000 in
theorem key1_any (a b : Int) (w : World) : Calls Try.prog 34 #[.agg #[.int .i64 a, .int .i64 b]] w (Ret (.int .i64 a) w) := by
  go_enter Try.func34, Try.ntmps34
  go_wp2
  go_ret
  exact ⟨rfl, below_alloc (Below.refl _ _) _⟩

set_option maxHeartbeats 400000 in
theorem key2_any (a : Int) (w : World) : Calls Try.prog 35 #[.int .i64 a] w (Ret (.int .i64 a) w) := by
  go_enter Try.func35, Try.ntmps35
  go_wp2
  go_ret
  exact ⟨rfl, Below.refl _ _⟩

set_option maxHeartbeats 400000 in
theorem week_any (w : World) : Calls Try.prog 30 #[] w (Ret (.agg #[.int .i64 0, .int .i64 0, .int .i64 0, .int .i64 0, .int .i64 0, .int .i64 1, .int .i64 2]) w) := by
  go_enter Try.func30, Try.ntmps30
  go_wp2
  go_returns
  exact ⟨rfl, by go_grown⟩

set_option maxHeartbeats 400000 in
theorem split_any (n b : Int) (hb : 0 < b) (hb2 : b < 100000) (hn : -1000000000 ≤ n) (hn2 : n ≤ 1000000000) (w : World) :
    Calls Try.prog 27 #[.int .i64 n, .int .i64 b] w (Ret (.tuple #[.int .i64 (n / b), .int .i64 (n % b)]) w) := by
  have hb0 : (b == 0) = false := by simp; omega
  obtain ⟨q, hq⟩ : ∃ q, n.tdiv b = q := ⟨_, rfl⟩
  obtain ⟨r, hr⟩ : ∃ r, n.tmod b = r := ⟨_, rfl⟩
  have hfl := split_plain n b q r hb hq hr
  obtain ⟨q', hq'⟩ : ∃ q, n / b = q := ⟨_, rfl⟩
  obtain ⟨r', hr'⟩ : ∃ r, n % b = r := ⟨_, rfl⟩
  rw [hq', hr'] at hfl ⊢
  obtain ⟨hqa, hqb, hra, hrb⟩ := split_bounds n b q r hb hq hr 1000000000 hn hn2
  have e1 := IntWalk.i64_in (q) (by omega)
  have e2 := IntWalk.i64_in (r) (by omega)
  have e3 := IntWalk.i64_in (q - 1) (by omega)
  have e4 := IntWalk.i64_in (r + b) (by omega)
  have H := Lib.hid hfl
  clear hfl hq' hr'
  go_enter Try.func27, Try.ntmps27
  go_wp2_with fail
  go_quiet (fail)
  go_wp2
  · go_ret2
    rename_i h
    obtain ⟨rfl, rfl⟩ := H.out.1 h
    exact ⟨rfl, below_drewN (Below.refl _ _) _⟩
  · go_ret2
    rename_i h
    obtain ⟨rfl, rfl⟩ := H.out.2 h
    exact ⟨rfl, below_drewN (Below.refl _ _) _⟩

end Go.Proofs.Ytgjnekfmnepjeaa
