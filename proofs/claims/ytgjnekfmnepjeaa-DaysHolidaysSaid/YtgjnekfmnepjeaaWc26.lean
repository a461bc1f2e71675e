/- Chapter 26: last, by halving. -/
import Derived.Test.YtgjnekfmnepjeaaWa26
namespace Go.Proofs.Ytgjnekfmnepjeaa
open Go.RowKit

set_option maxHeartbeats 1000000 in
theorem lastC_any (o : Option Addr) (cap : Nat) (cs : List (Int × Int)) (n : Int) (c : Nat) (w : World) (hl : cs.length ≤ 100) (hc : Twos w o cs) (hcut : Cut (cs.map (·.1)) n c) :
    Calls Try.prog 26 #[.slice o cs.length cap, .int .i64 n, .func (.func 34) #[] #[]] w (Ret (.int .i64 ((c : Int) - 1)) w) := by
  have HC := Lib.hid hc
  have HCut := Lib.hid hcut
  have hcl : c ≤ cs.length := by simpa using hcut.len
  clear hc hcut
  have e0 := IntWalk.i64_in ((cs.length : Int) - 1) (by omega)
  go_enter Try.func26, Try.ntmps26
  go_wp2
  go_loopw [7, 8] (fun u v wr => ∃ (lo hi : Int), -1 ≤ lo ∧ lo ≤ (c : Int) - 1 ∧ (c : Int) - 1 ≤ hi ∧ hi ≤ (cs.length : Int) - 1 ∧ u = .int .i64 lo ∧ v = .int .i64 hi ∧ Below w.heap.size w wr) (fun u v _ => (intOf v - intOf u).toNat)
  case atStart => exact ⟨-1, _, by omega, by omega, by omega, by omega, rfl, rfl, Below.refl _ _⟩
  case round =>
    obtain ⟨lo, hi, r1, r2, r3, r4, rfl, rfl, hb⟩ := hrel
    have HB := Lib.hid hb
    clear hb
    by_cases hlt : lo < hi
    · obtain ⟨t, ht⟩ : ∃ t, hi - lo = t := ⟨_, rfl⟩
      obtain ⟨d, hd⟩ : ∃ d, (t + 1).tdiv 2 = d := ⟨_, rfl⟩
      have hdd : d = (t + 1) / 2 := by rw [← hd]; exact Int.tdiv_eq_ediv_of_nonneg (by omega)
      obtain ⟨m, hm⟩ : ∃ m : Nat, lo + d = (m : Int) := ⟨(lo + d).toNat, by omega⟩
      have hml : m < cs.length := by omega
      have hma : lo < (m : Int) ∧ (m : Int) ≤ hi := by omega
      have e1 := IntWalk.i64_in t (by omega)
      have e2 := IntWalk.i64_in (t + 1) (by omega)
      have e3 := IntWalk.i64_in d (by omega)
      have e4 := IntWalk.i64_in (m : Int) (by omega)
      have e5 := IntWalk.i64_in ((m : Int) - 1) (by omega)
      have HD := Lib.hid hdd
      clear hdd
      obtain ⟨g, off, ho, h1, h2⟩ := (HC.out.later HB.out) m hml
      subst ho
      obtain ⟨x, hx⟩ : ∃ x, (cs.getD m (0, 0)).1 = x := ⟨_, rfl⟩
      obtain ⟨y, hy⟩ : ∃ y, (cs.getD m (0, 0)).2 = y := ⟨_, rfl⟩
      rw [hx] at h1
      rw [hy] at h2
      have HX := Lib.hid ((getD_map cs (·.1) m hml (0, 0) 0).trans hx)
      have HL := Lib.hid (show m < (cs.map (·.1)).length by simpa using hml)
      clear hx hy
      go_wp2_with fail
      refine (key1_any x y _).mono ?_
      rintro e w1 ⟨rfl, hb1⟩
      have HB1 := Lib.hid (below_step HB.out hb1)
      clear hb1
      by_cases t1 : x ≤ n
      · go_wp2
        go_roundw
        case rel =>
          refine ⟨m, hi, by omega, ?_, r3, r4, rfl, rfl, HB1.out⟩
          rcases Nat.lt_or_ge m c with h | h
          · omega
          · have := HCut.out.high m h HL.out
            have := HX.out
            omega
        case measure => simp [intOf]; omega
      · have t2 : n < x := by omega
        go_wp2
        go_roundw
        case rel =>
          refine ⟨lo, (m : Int) - 1, r1, r2, ?_, by omega, rfl, rfl, HB1.out⟩
          rcases Nat.lt_or_ge m c with h | h
          · have := HCut.out.low m h
            have := HX.out
            omega
          · omega
        case measure => simp [intOf]; omega
    · obtain rfl : hi = lo := by omega
      obtain rfl : hi = (c : Int) - 1 := by omega
      go_wp2
      go_ret
      exact ⟨rfl, HB.out⟩

set_option maxHeartbeats 1000000 in
theorem lastH_any (o : Option Addr) (cap : Nat) (hs : List Int) (n : Int) (c : Nat) (w : World) (hl : hs.length ≤ 100) (hc : Ints w o hs) (hcut : Cut hs n c) :
    Calls Try.prog 29 #[.slice o hs.length cap, .int .i64 n, .func (.func 35) #[] #[]] w (Ret (.int .i64 ((c : Int) - 1)) w) := by
  have HC := Lib.hid hc
  have HCut := Lib.hid hcut
  have hcl : c ≤ hs.length := by simpa using hcut.len
  clear hc hcut
  have e0 := IntWalk.i64_in ((hs.length : Int) - 1) (by omega)
  go_enter Try.func29, Try.ntmps29
  go_wp2
  go_loopw [7, 8] (fun u v wr => ∃ (lo hi : Int), -1 ≤ lo ∧ lo ≤ (c : Int) - 1 ∧ (c : Int) - 1 ≤ hi ∧ hi ≤ (hs.length : Int) - 1 ∧ u = .int .i64 lo ∧ v = .int .i64 hi ∧ Below w.heap.size w wr) (fun u v _ => (intOf v - intOf u).toNat)
  case atStart => exact ⟨-1, _, by omega, by omega, by omega, by omega, rfl, rfl, Below.refl _ _⟩
  case round =>
    obtain ⟨lo, hi, r1, r2, r3, r4, rfl, rfl, hb⟩ := hrel
    have HB := Lib.hid hb
    clear hb
    by_cases hlt : lo < hi
    · obtain ⟨t, ht⟩ : ∃ t, hi - lo = t := ⟨_, rfl⟩
      obtain ⟨d, hd⟩ : ∃ d, (t + 1).tdiv 2 = d := ⟨_, rfl⟩
      have hdd : d = (t + 1) / 2 := by rw [← hd]; exact Int.tdiv_eq_ediv_of_nonneg (by omega)
      obtain ⟨m, hm⟩ : ∃ m : Nat, lo + d = (m : Int) := ⟨(lo + d).toNat, by omega⟩
      have hml : m < hs.length := by omega
      have hma : lo < (m : Int) ∧ (m : Int) ≤ hi := by omega
      have e1 := IntWalk.i64_in t (by omega)
      have e2 := IntWalk.i64_in (t + 1) (by omega)
      have e3 := IntWalk.i64_in d (by omega)
      have e4 := IntWalk.i64_in (m : Int) (by omega)
      have e5 := IntWalk.i64_in ((m : Int) - 1) (by omega)
      have HD := Lib.hid hdd
      clear hdd
      obtain ⟨g, off, ho, h1⟩ := (HC.out.later HB.out) m hml
      subst ho
      obtain ⟨x, hx⟩ : ∃ x, hs.getD m 0 = x := ⟨_, rfl⟩
      rw [hx] at h1
      have HX := Lib.hid hx
      have HL := Lib.hid hml
      clear hx
      go_wp2_with fail
      refine (key2_any x _).mono ?_
      rintro e w1 ⟨rfl, hb1⟩
      have HB1 := Lib.hid (below_step HB.out hb1)
      clear hb1
      by_cases t1 : x ≤ n
      · go_wp2
        go_roundw
        case rel =>
          refine ⟨m, hi, by omega, ?_, r3, r4, rfl, rfl, HB1.out⟩
          rcases Nat.lt_or_ge m c with h | h
          · omega
          · have := HCut.out.high m h HL.out
            have := HX.out
            omega
        case measure => simp [intOf]; omega
      · have t2 : n < x := by omega
        go_wp2
        go_roundw
        case rel =>
          refine ⟨lo, (m : Int) - 1, r1, r2, ?_, by omega, rfl, rfl, HB1.out⟩
          rcases Nat.lt_or_ge m c with h | h
          · have := HCut.out.low m h
            have := HX.out
            omega
          · omega
        case measure => simp [intOf]; omega
    · obtain rfl : hi = lo := by omega
      obtain rfl : hi = (c : Int) - 1 := by omega
      go_wp2
      go_ret
      exact ⟨rfl, HB.out⟩

end Go.Proofs.Ytgjnekfmnepjeaa
