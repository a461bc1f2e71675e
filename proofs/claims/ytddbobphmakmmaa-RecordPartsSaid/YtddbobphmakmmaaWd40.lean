/- Chapter 40: the reference's Check, Ordered, Same, Energy. -/
import Derived.Test.YtddbobphmakmmaaWc40
namespace Go.Proofs.Ytddbobphmakmmaa
open Go.RowKit

theorem stAt_zero (seed : Nat) (l : List Rd) : stAt seed l 0 = seed := rfl
theorem stAt_succ (seed : Nat) {l : List Rd} {k : Nat} (hk : k < l.length) : stAt seed l (k + 1) = (getR l k).k := by
  unfold stAt prevAt
  rw [if_neg (by omega), Nat.add_sub_cancel, getR_some hk]
theorem stAt_lt {seed : Nat} (hs : seed < 18446744073709551616) (l : List Rd) (k : Nat) : stAt seed l k < 18446744073709551616 := by
  unfold stAt
  split
  · exact hs
  · rename_i b _
    exact b.hk
theorem rightAt_get {seed : Nat} {l : List Rd} {k : Nat} (hk : k < l.length) : rightAt seed l k = (okAt l k && decide ((getR l k).k = link (stAt seed l k) (getR l k))) := by
  unfold rightAt
  rw [getR_some hk]

set_option maxHeartbeats 4000000 in
theorem refOrdered_any (o : Option Addr) (cap : Nat) (l : List Rd) (w : World) (hr : Rds w o l) (hl : l.length ≤ 9223372036854775807) : Calls Try.prog 19 #[.slice o l.length cap] w (Ret (.bool (ordered l)) w) := by
  have HRD := Lib.hid hr
  clear hr
  obtain ⟨V, hV⟩ : ∃ V, ordered l = V := ⟨_, rfl⟩
  rw [hV]
  have HV := Lib.hid hV
  clear hV
  go_enter Try.func19, Try.ntmps19
  go_wp2
  go_loopw [3] (fun i wr => ∃ k : Nat, k ≤ l.length ∧ i = .int .i64 k ∧ (∀ j, j < k → okAt l j = true) ∧ Below w.heap.size w wr) (fun i _ => l.length - (intOf i).toNat)
  case atStart => exact ⟨0, Nat.zero_le _, rfl, fun j hj => absurd hj (by omega), Below.refl _ _⟩
  case round =>
    obtain ⟨k, hk, rfl, hri, hb⟩ := hrel
    have HRI := Lib.hid hri
    have HB := Lib.hid hb
    clear hri hb
    by_cases hlt : k < l.length
    · have HF := Lib.hid (fits_any o cap l k wr (HRD.out.later HB.out) hlt hl)
      obtain ⟨v, hv⟩ : ∃ v, okAt l k = v := ⟨_, rfl⟩
      have HVK := Lib.hid hv
      rw [hv] at HF
      clear hv
      go_wp2_with fail
      refine HF.out.mono ?_
      rintro e w1 ⟨rfl, hb⟩
      have HB2 := Lib.hid (below_step HB.out hb)
      clear hb HF
      cases v with
      | false =>
        obtain rfl : false = V := by
          cases hV : V with
          | false => rfl
          | true => have := ordered_iff.1 (HV.out.trans hV) k hlt; rw [HVK.out] at this; cases this
        go_wp2
        go_ret
        exact ⟨rfl, HB2.out⟩
      | true =>
        go_wp2
        go_roundw
        case rel => exact ⟨k + 1, by omega, by go_num, fun j hj => by rcases Nat.lt_or_eq_of_le (Nat.le_of_lt_succ hj) with h | rfl; exact HRI.out j h; exact HVK.out, HB2.out⟩
        case measure => simp [intOf]; omega
    · obtain rfl : k = l.length := by omega
      obtain rfl : true = V := by rw [← HV.out]; exact (ordered_iff.2 HRI.out).symm
      go_wp2
      go_ret
      exact ⟨rfl, HB.out⟩

theorem Rd.ne_parts {x y : Rd} (h : x ≠ y) : ¬ x.s = y.s ∨ (x.s = y.s ∧ ¬ x.n = y.n) ∨ (x.s = y.s ∧ x.n = y.n ∧ ¬ x.m = y.m) ∨ (x.s = y.s ∧ x.n = y.n ∧ x.m = y.m ∧ ¬ x.r = y.r) ∨ (x.s = y.s ∧ x.n = y.n ∧ x.m = y.m ∧ x.r = y.r ∧ ¬ x.k = y.k) := by
  obtain ⟨s, n, m, r, k, hk⟩ := x
  obtain ⟨s', n', m', r', k', hk'⟩ := y
  by_cases h1 : s = s' <;> by_cases h2 : n = n' <;> by_cases h3 : m = m' <;> by_cases h4 : r = r' <;> by_cases h5 : k = k' <;> simp_all

theorem run_neq_aux (s n m r k s' n' m' r' k' : Int) (h : ¬ s = s' ∨ (s = s' ∧ ¬ n = n') ∨ (s = s' ∧ n = n' ∧ ¬ m = m') ∨ (s = s' ∧ n = n' ∧ m = m' ∧ ¬ r = r') ∨ (s = s' ∧ n = n' ∧ m = m' ∧ r = r' ∧ ¬ k = k')) (w : World) :
    (binOp .neq 45 (.agg #[.int .i64 s, .int .i64 n, .int .i64 m, .int .i64 r, .int .u64 k]) (.agg #[.int .i64 s', .int .i64 n', .int .i64 m', .int .i64 r', .int .u64 k'])).run Try.prog w = .ok (.bool true) w := by
  rcases h with h | ⟨rfl, h⟩ | ⟨rfl, rfl, h⟩ | ⟨rfl, rfl, rfl, h⟩ | ⟨rfl, rfl, rfl, rfl, h⟩
  all_goals (go_simp; try simp [h])

theorem run_neq_rd (x y : Rd) (h : x ≠ y) (w : World) : (binOp .neq 45 (rdV x) (rdV y)).run Try.prog w = .ok (.bool true) w :=
  run_neq_aux _ _ _ _ _ _ _ _ _ _ (by have := Rd.ne_parts h; omega) w

end Go.Proofs.Ytddbobphmakmmaa
