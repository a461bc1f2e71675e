/- Chapter 07: the small functions. -/
import Derived.Test.YtmiedlgcdkggdaaSl
import Derived.Test.YtmiedlgcdkggdaaRows
import Derived.Handy
import Derived.Deep.RegionWith
import Derived.Deep.QuietTactic
import Derived.BigQuiet
import Derived.Test.YtmiedlgcdkggdaaPlain07
namespace Go.Proofs.Ytmiedlgcdkggdaa
open Go.RowKit

def inBand (n a b : Int) : Bool := decide (a ≤ n ∧ n ≤ b)

theorem ret_int {k : IntKind} {a b : Int} (h : a = b) : Ending.returned (.int k a) = .returned (.int k b) := by rw [h]
theorem ret_bool {a b : Bool} (h : a = b) : Ending.returned (.bool a) = .returned (.bool b) := by rw [h]

set_option maxHeartbeats 400000 in
theorem inside_any (n a b : Int) (w : World) : Calls Try.prog 24 #[.int .i64 n, .int .i64 a, .int .i64 b] w fun e w' => e = .returned (.bool (inBand n a b)) ∧ w' = w := by
  by_cases h1 : a ≤ n
  · by_cases h2 : n ≤ b
    · have hx : inBand n a b = true := by simp [inBand, h1, h2]
      rw [hx]
      go_enter Try.func24, Try.ntmps24
      go_wp2
      go_ret
      exact ⟨rfl, rfl⟩
    · have hx : inBand n a b = false := by simp [inBand, h2]
      rw [hx]
      go_enter Try.func24, Try.ntmps24
      go_wp2
      go_ret
      exact ⟨rfl, rfl⟩
  · have hx : inBand n a b = false := by simp [inBand, h1]
    rw [hx]
    go_enter Try.func24, Try.ntmps24
    go_wp2
    go_ret
    exact ⟨rfl, rfl⟩

set_option maxHeartbeats 400000 in
theorem isTemp_any (n : Int) (w : World) : Calls Try.prog 18 #[.int .i64 n] w fun e w' => e = .returned (.bool (isT n)) ∧ w' = w := by
  go_enter Try.func18, Try.ntmps18
  go_wp2_with fail
  refine (inside_any _ _ _ _).mono ?_
  rintro e w' ⟨rfl, rfl⟩
  go_wp2
  go_ret
  exact ⟨rfl, rfl⟩

set_option maxHeartbeats 400000 in
theorem isCurrent_any (n : Int) (w : World) : Calls Try.prog 19 #[.int .i64 n] w fun e w' => e = .returned (.bool (isI n)) ∧ w' = w := by
  go_enter Try.func19, Try.ntmps19
  go_wp2_with fail
  refine (inside_any _ _ _ _).mono ?_
  rintro e w' ⟨rfl, rfl⟩
  go_wp2
  go_ret
  exact ⟨rfl, rfl⟩

set_option maxHeartbeats 400000 in
theorem up_any (n d : Int) (hd : 1 ≤ d) (hd2 : d ≤ 1000000) (hn : -10000000000000 ≤ n) (hn2 : n ≤ 10000000000000) (w : World) :
    Calls Try.prog 25 #[.int .i64 n, .int .i64 d] w (Ret (.int .i64 (upQ n d)) w) := by
  have hb0 : (d == 0) = false := by simp; omega
  have H1 := Lib.hid (@up_pos n d (by omega))
  have H2 := Lib.hid (@up_not n d (by omega))
  obtain ⟨q, hq⟩ : ∃ q, n.tdiv d = q := ⟨_, rfl⟩
  obtain ⟨r, hr⟩ : ∃ r, n.tmod d = r := ⟨_, rfl⟩
  rw [hq, hr] at H1 H2
  obtain ⟨u, hu⟩ : ∃ u, upQ n d = u := ⟨_, rfl⟩
  have hub : -10000000000000 ≤ u ∧ u ≤ 10000000000000 := by
    rw [← hu]
    have m1 := Int.mul_le_mul (show (10000000000001 : Int) ≤ 10000000000001 by omega) hd (by omega) (by omega)
    constructor
    · have := (lt_upQ (n := n) (d := d) (k := -10000000000001) (by omega)).2 (by omega)
      omega
    · exact (upQ_le (by omega)).2 (by omega)
  rw [hu] at H1 H2 ⊢
  clear hu
  have hqb : -10000000000001 ≤ q ∧ q ≤ 10000000000001 := by
    by_cases h : 0 < r
    · have := H1.out h; omega
    · have := H2.out h; omega
  have hrb : -1000000 ≤ r ∧ r ≤ 1000000 := by
    rw [← hr]
    have h1 : n.tmod d < d := Int.tmod_lt_of_pos n (by omega)
    have h2 : (-n).tmod d < d := Int.tmod_lt_of_pos _ (by omega)
    rw [Int.neg_tmod] at h2
    omega
  have e1 := IntWalk.i64_in (q) (by omega)
  have e2 := IntWalk.i64_in (r) (by omega)
  have e3 := IntWalk.i64_in (q + 1) (by omega)
  go_enter Try.func25, Try.ntmps25
  go_wp2
  · go_ret
    rename_i h
    rw [← H1.out h]
    exact ⟨rfl, Below.refl _ _⟩
  · go_ret
    rename_i h
    rw [← H2.out h]
    exact ⟨rfl, Below.refl _ _⟩

/-- A cable with its temperature, in a block of its own. -/
def Warm (w : World) (b : Nat) (a m g l d t : Int) : Prop := Blk w b 38 #[.int .i64 a, .int .i64 m, .int .i64 g, .int .i64 l, .int .i64 d, .int .i64 t]

theorem Warm.cells {w : World} {b : Nat} {a m g l d t : Int} (h : Warm w b a m g l d t) : w.cell? ⟨b, 0, none⟩ = some (.int .i64 a) ∧ w.cell? ⟨b, 1, none⟩ = some (.int .i64 m) ∧ w.cell? ⟨b, 2, none⟩ = some (.int .i64 g) ∧ w.cell? ⟨b, 3, none⟩ = some (.int .i64 l) ∧ w.cell? ⟨b, 4, none⟩ = some (.int .i64 d) ∧ w.cell? ⟨b, 5, none⟩ = some (.int .i64 t) :=
  ⟨h.cell 0, h.cell 1, h.cell 2, h.cell 3, h.cell 4, h.cell 5⟩

set_option maxHeartbeats 400000 in
theorem none_any (b : Nat) (a m g l d t : Int) (w : World) (h : Warm w b a m g l d t) : Calls Try.prog 14 #[.pointer (some ⟨b, 0, none⟩)] w fun e w' => e = .returned (.bool (zeroC a m g l d)) ∧ w' = w := by
  obtain ⟨c0, c1, c2, c3, c4, c5⟩ := h.cells
  go_enter Try.func14, Try.ntmps14
  go_wp2
  all_goals
    go_ret
    exact ⟨ret_bool (by simp_all [zeroC]), rfl⟩

set_option maxHeartbeats 400000 in
theorem loss_any (b : Nat) (a m g l d t : Int) (w : World) (h : Warm w b a m g l d t) : Calls Try.prog 15 #[.pointer (some ⟨b, 0, none⟩)] w fun e w' => e = .returned (.int .i64 (min l d)) ∧ Below w.heap.size w w' := by
  obtain ⟨c0, c1, c2, c3, c4, c5⟩ := h.cells
  go_enter Try.func15, Try.ntmps15
  go_wp2
  go_quiet (fail)
  go_wp2
  all_goals
    go_ret
    exact ⟨ret_int (by omega), below_drewN (Below.refl _ _) _⟩

end Go.Proofs.Ytmiedlgcdkggdaa
