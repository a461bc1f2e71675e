/- Chapter 07: valid, tick, hot. -/
import Derived.Test.YtmiedlgcdkggdaaWa07
namespace Go.Proofs.Ytmiedlgcdkggdaa
open Go.RowKit

theorem mixed : Try.prog.follows .mixedOrders = true := by kernel_rfl

@[reducible] def cabV (a m g l d : Int) : Value := .agg #[.int .i64 a, .int .i64 m, .int .i64 g, .int .i64 l, .int .i64 d]

set_option maxHeartbeats 1000000 in
theorem valid_any (a m g l d : Int) (w : World) : Calls Try.prog 13 #[cabV a m g l d] w (Ret (.bool (validC a m g l d)) w) := by
  cases hz : zeroC a m g l d with
  | true =>
    obtain ⟨rfl, rfl, rfl, rfl, rfl⟩ := zeroC_iff.1 hz
    have hv : validC 0 0 0 0 0 = true := by decide
    rw [hv]
    clear hz
    go_enter Try.func13, Try.ntmps13
    go_wp2
    go_ret
    exact ⟨rfl, by go_grown⟩
  | false =>
    have hv : validC a m g l d = boundC a m g l d := by simp [validC, hz]
    rw [hv]
    have HZ := Lib.hid hz
    clear hz hv
    go_enter Try.func13, Try.ntmps13
    go_wp2_with (go_at_call 24; refine (inside_any _ _ _ _).mono ?_; rintro e w' ⟨rfl, rfl⟩)
    all_goals
      go_ret
      refine ⟨ret_bool ?_, by go_grown⟩
      have hz := HZ.out
      clear HZ
      rw [Bool.eq_iff_iff]
      simp only [zeroC, boundC, inBand, decide_eq_true_eq, decide_eq_false_iff_not, Bool.false_eq_true, true_iff, false_iff] at *
      omega

set_option maxHeartbeats 1000000 in
theorem tick_zero (b : Nat) (a m g l d t x : Int) (w : World) (h : Warm w b a m g l d t) (hz : zeroC a m g l d = true) : Calls Try.prog 20 #[.pointer (some ⟨b, 0, none⟩), .int .i64 x] w fun e w' => e = .returned (.tuple #[]) ∧ w' = w := by
  go_enter Try.func20, Try.ntmps20
  go_wp2_with fail
  refine (none_any b a m g l d t _ h).mono ?_
  rintro e w' ⟨rfl, rfl⟩
  rw [hz]
  go_wp2
  go_returns
  exact ⟨rfl, rfl⟩

theorem grown_of_below {w w' w2 : World} {b : Nat} (h : w.grownBy w' (some b)) (hb : Below w'.heap.size w' w2) : w.grownBy w2 (some b) :=
  h.trans ⟨hb.os, hb.tape, hb.output, hb.size, fun j hj _ => hb.block j hj⟩

theorem grown_set {w w' : World} {b i : Nat} (hb : Below w.heap.size w w') (u : Value) : w.grownBy (w'.setCell ⟨b, i, none⟩ u) (some b) :=
  ⟨hb.os, hb.tape, hb.output, by simpa using hb.size, fun j hj hne => (Below.heap_setCell w' ⟨b, i, none⟩ u j (fun e => hne (by simpa using e))).trans (hb.block j hj)⟩

set_option maxHeartbeats 1000000 in
theorem tick_any (b : Nat) (a m g l d t x : Int) (w : World) (h : Warm w b a m g l d t) (hz : zeroC a m g l d = false) (hb : boundC a m g l d = true) (ht : 0 ≤ t) (ht2 : t ≤ 1000000000) (hx : 0 ≤ x) (hx2 : x ≤ 1000) :
    Calls Try.prog 20 #[.pointer (some ⟨b, 0, none⟩), .int .i64 x] w fun e w' => e = .returned (.tuple #[]) ∧ Warm w' b a m g l d (nextT a g l d t x) ∧ w.grownBy w' (some b) := by
  obtain ⟨b1, b2, b3, b4, b5, b6, b7, b8, b9, b10⟩ := boundC_iff.1 hb
  have r1 := heat_range b5 b6 hx hx2
  have r2 := loss_range (l := l) (d := d) (t := t) (a := a) b7 b8 b9 (by omega) (by omega)
  have HW := Lib.hid h
  have HZ := Lib.hid hz
  have HN := Lib.hid (show nextT a g l d t x = t + upQ (g * x * x - min l d * (t - a)) d from rfl)
  obtain ⟨N, hN⟩ : ∃ N, nextT a g l d t x = N := ⟨_, rfl⟩
  rw [hN] at HN
  rw [hN]
  clear h hz hN hb
  obtain ⟨p, hp⟩ : ∃ p, g * x = p := ⟨_, rfl⟩
  rw [hp] at r1 HN
  obtain ⟨q, hq⟩ : ∃ q, p * x = q := ⟨_, rfl⟩
  rw [hq] at r1 HN
  obtain ⟨s, hs⟩ : ∃ s, t - a = s := ⟨_, rfl⟩
  rw [hs] at r2 HN
  obtain ⟨ll, hll⟩ : ∃ ll, min l d = ll := ⟨_, rfl⟩
  rw [hll] at r2 HN
  obtain ⟨r, hr⟩ : ∃ r, ll * s = r := ⟨_, rfl⟩
  rw [hr] at r2 HN
  obtain ⟨n, hn⟩ : ∃ n, q - r = n := ⟨_, rfl⟩
  rw [hn] at HN
  have hn1 : -10000000000000 ≤ n ∧ n ≤ 10000000000000 := by omega
  obtain ⟨u, hu⟩ : ∃ u, upQ n d = u := ⟨_, rfl⟩
  rw [hu] at HN
  have hub : -10000000000000 ≤ u ∧ u ≤ 10000000000000 := by
    rw [← hu]
    have m1 := Int.mul_le_mul (show (10000000000001 : Int) ≤ 10000000000001 by omega) b9 (by omega) (by omega)
    constructor
    · have := (lt_upQ (n := n) (d := d) (k := -10000000000001) (by omega)).2 (by omega)
      omega
    · exact (upQ_le (by omega)).2 (by omega)
  have e1 := IntWalk.i64_in p (by omega)
  have e2 := IntWalk.i64_in q (by omega)
  have e3 := IntWalk.i64_in s (by omega)
  have e4 := IntWalk.i64_in r (by omega)
  have e5 := IntWalk.i64_in n (by omega)
  have e6 := IntWalk.i64_in (t + u) (by omega)
  have hN := HN.out
  clear HN
  rw [hN]
  have HLL := Lib.hid hll
  have HU := Lib.hid hu
  clear hll hu hN
  go_enter Try.func20, Try.ntmps20
  go_wp2_with fail
  refine (none_any b a m g l d t _ HW.out).mono ?_
  rintro e w' ⟨rfl, rfl⟩
  rw [HZ.out]
  go_wp2
  refine wp_region_inv 36 (fun w'' => Below w'.heap.size w' w'') mixed (by kernel_rfl) (Below.refl _ _).drew ?_
  simp only [List.take_succ_cons, List.take_zero, List.drop_succ_cons, List.drop_zero]
  intro R hR
  have HR := Lib.hid hR
  clear hR
  have cc : ∀ w'', Below w'.heap.size w' w'' → w''.cell? ⟨b, 0, none⟩ = some (.int .i64 a) ∧ w''.cell? ⟨b, 1, none⟩ = some (.int .i64 m) ∧ w''.cell? ⟨b, 2, none⟩ = some (.int .i64 g) ∧ w''.cell? ⟨b, 3, none⟩ = some (.int .i64 l) ∧ w''.cell? ⟨b, 4, none⟩ = some (.int .i64 d) ∧ w''.cell? ⟨b, 5, none⟩ = some (.int .i64 t) :=
    fun w'' hw => Warm.cells (HW.out.later hw)
  have HCC := Lib.hid cc
  clear cc
  repeat (first
    | ((with_reducible refine wpInv_move ?_ ?_); exact rfl; simp only [Act.put, List.setIfInBounds_toArray, List.set_cons_zero, List.set_cons_succ])
    | (apply wpInv_call 15 #[.pointer (some ⟨b, 0, none⟩)] rfl (v := .int .i64 ll)
       · (intro w'; go_simp)
       · exact fun w' hw' => (loss_any b a m g l d t w' (HW.out.later hw')).mono fun e w'' hh => ⟨by rw [← HLL.out]; exact hh.1, below_step hw' hh.2⟩
       simp only [Act.put, List.setIfInBounds_toArray, List.set_cons_zero, List.set_cons_succ])
    | (apply wpInv_call 25 #[.int .i64 n, .int .i64 d] rfl (v := .int .i64 u)
       · (intro w'; go_simp)
       · exact fun w' hw' => (up_any n d b9 b10 hn1.1 hn1.2 w').mono fun e w'' hh => ⟨by rw [← HU.out]; exact hh.1, below_step hw' hh.2⟩
       simp only [Act.put, List.setIfInBounds_toArray, List.set_cons_zero, List.set_cons_succ])
    | (apply wpInv_val rfl
       · (intro w' hw'; obtain ⟨c0, c1, c2, c3, c4, c5⟩ := HCC.out w' hw'; go_simp; with_reducible rfl)
       simp only [Act.put, List.setIfInBounds_toArray, List.set_cons_zero, List.set_cons_succ]))
  refine wpInv_nil (HR.out _ (fun w2 hw2 => ?_))
  have hW2 := HW.out.later hw2
  obtain ⟨c0, c1, c2, c3, c4, c5⟩ := Warm.cells hW2
  have f5 := hW2.frozen 5
  have HW2 := Lib.hid hW2
  have HB2 := Lib.hid hw2
  clear hW2 hw2 HR HCC c0 c1 c2 c3 c4
  go_wp2
  go_returns
  exact ⟨rfl, HW2.out.set 5 _, grown_set HB2.out _⟩

end Go.Proofs.Ytmiedlgcdkggdaa
