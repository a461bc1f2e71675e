/- Chapter 26: validList, last. -/
import Derived.Test.YtgjnekfmnepjeaaWa26
namespace Go.Proofs.Ytgjnekfmnepjeaa
open Go.RowKit

set_option maxHeartbeats 1000000 in
theorem validC_any (o : Option Addr) (cap : Nat) (cs : List (Int × Int)) (most : Int) (w : World) (hl : cs.length ≤ 100) (hc : Twos w o cs) :
    Calls Try.prog 31 #[.slice o cs.length cap, .int .i64 most, .func (.func 34) #[] #[]] w (Ret (.bool (incr most (-1) (cs.map (·.1)))) w) := by
  obtain ⟨r, hr⟩ : ∃ r, incr most (-1) (cs.map (·.1)) = r := ⟨_, rfl⟩
  rw [hr]
  have HR := Lib.hid hr
  have HC := Lib.hid hc
  clear hr hc
  go_enter Try.func31, Try.ntmps31
  go_wp2
  go_loopw [7, 13] (fun u i wr => ∃ (k : Nat) (b : Int), k ≤ cs.length ∧ i = .int .i64 k ∧ u = .int .i64 b ∧ restIncr most b (cs.map (·.1)) k ∧ Below w.heap.size w wr) (fun _ i _ => cs.length - (intOf i).toNat)
  case atStart => exact ⟨0, -1, Nat.zero_le _, rfl, rfl, restIncr_zero _ _, Below.refl _ _⟩
  case round =>
    obtain ⟨k, b, hk, rfl, rfl, hrest, hb⟩ := hrel
    have HT := Lib.hid hrest
    have HB := Lib.hid hb
    clear hrest hb
    by_cases hlt : k < cs.length
    · obtain ⟨g, off, ho, h1, h2⟩ := (HC.out.later HB.out) k hlt
      subst ho
      obtain ⟨x, hx⟩ : ∃ x, (cs.getD k (0, 0)).1 = x := ⟨_, rfl⟩
      obtain ⟨y, hy⟩ : ∃ y, (cs.getD k (0, 0)).2 = y := ⟨_, rfl⟩
      rw [hx] at h1
      rw [hy] at h2
      have HX := Lib.hid ((getD_map cs (·.1) k hlt (0, 0) 0).trans hx)
      have HL := Lib.hid (show k < (cs.map (·.1)).length by simpa using hlt)
      clear hx hy
      go_wp2_with fail
      refine (key1_any x y _).mono ?_
      rintro e w1 ⟨rfl, hb1⟩
      obtain ⟨c0, c1⟩ := two_new hb1
      have HB1 := Lib.hid (below_step (below_alloc HB.out _) hb1)
      clear hb1 h1 h2
      by_cases t1 : b < x
      · by_cases t2 : x ≤ most
        · go_wp2_with fail
          refine (key1_any x y _).mono ?_
          rintro e w2 ⟨rfl, hb2⟩
          have HB2 := Lib.hid (below_step HB1.out hb2)
          clear hb2
          go_wp2
          go_roundw
          case rel => exact ⟨k + 1, x, by omega, by go_num, rfl, restIncr_step HT.out HL.out HX.out t1 t2, HB2.out⟩
          case measure => simp [intOf]; omega
        · have t3 : most < x := by omega
          go_wp2
          go_ret
          obtain rfl : r = false := HR.out.symm.trans (restIncr_bad HT.out HL.out HX.out (.inr t3))
          exact ⟨rfl, HB1.out⟩
      · have t3 : x ≤ b := by omega
        go_wp2
        go_ret
        obtain rfl : r = false := HR.out.symm.trans (restIncr_bad HT.out HL.out HX.out (.inl t3))
        exact ⟨rfl, HB1.out⟩
    · obtain rfl : k = cs.length := by omega
      go_wp2
      go_ret
      obtain rfl : r = true := HR.out.symm.trans (restIncr_end (by simpa using HT.out))
      exact ⟨rfl, HB.out⟩

set_option maxHeartbeats 1000000 in
theorem validH_any (o : Option Addr) (cap : Nat) (hs : List Int) (most : Int) (w : World) (hl : hs.length ≤ 100) (hc : Ints w o hs) :
    Calls Try.prog 32 #[.slice o hs.length cap, .int .i64 most, .func (.func 35) #[] #[]] w (Ret (.bool (incr most (-1) hs)) w) := by
  obtain ⟨r, hr⟩ : ∃ r, incr most (-1) hs = r := ⟨_, rfl⟩
  rw [hr]
  have HR := Lib.hid hr
  have HC := Lib.hid hc
  clear hr hc
  go_enter Try.func32, Try.ntmps32
  go_wp2
  go_loopw [7, 13] (fun u i wr => ∃ (k : Nat) (b : Int), k ≤ hs.length ∧ i = .int .i64 k ∧ u = .int .i64 b ∧ restIncr most b hs k ∧ Below w.heap.size w wr) (fun _ i _ => hs.length - (intOf i).toNat)
  case atStart => exact ⟨0, -1, Nat.zero_le _, rfl, rfl, restIncr_zero _ _, Below.refl _ _⟩
  case round =>
    obtain ⟨k, b, hk, rfl, rfl, hrest, hb⟩ := hrel
    have HT := Lib.hid hrest
    have HB := Lib.hid hb
    clear hrest hb
    by_cases hlt : k < hs.length
    · obtain ⟨g, off, ho, h1⟩ := (HC.out.later HB.out) k hlt
      subst ho
      obtain ⟨x, hx⟩ : ∃ x, hs.getD k 0 = x := ⟨_, rfl⟩
      rw [hx] at h1
      have HX := Lib.hid hx
      have HL := Lib.hid hlt
      clear hx
      go_wp2_with fail
      refine (key2_any x _).mono ?_
      rintro e w1 ⟨rfl, hb1⟩
      have HB1 := Lib.hid (below_step HB.out hb1)
      clear hb1 h1
      by_cases t1 : b < x
      · by_cases t2 : x ≤ most
        · go_wp2_with fail
          refine (key2_any x _).mono ?_
          rintro e w2 ⟨rfl, hb2⟩
          have HB2 := Lib.hid (below_step HB1.out hb2)
          clear hb2
          go_wp2
          go_roundw
          case rel => exact ⟨k + 1, x, by omega, by go_num, rfl, restIncr_step HT.out HL.out HX.out t1 t2, HB2.out⟩
          case measure => simp [intOf]; omega
        · have t3 : most < x := by omega
          go_wp2
          go_ret
          obtain rfl : r = false := HR.out.symm.trans (restIncr_bad HT.out HL.out HX.out (.inr t3))
          exact ⟨rfl, HB1.out⟩
      · have t3 : x ≤ b := by omega
        go_wp2
        go_ret
        obtain rfl : r = false := HR.out.symm.trans (restIncr_bad HT.out HL.out HX.out (.inl t3))
        exact ⟨rfl, HB1.out⟩
    · obtain rfl : k = hs.length := by omega
      go_wp2
      go_ret
      obtain rfl : r = true := HR.out.symm.trans (restIncr_end (by simpa using HT.out))
      exact ⟨rfl, HB.out⟩

end Go.Proofs.Ytgjnekfmnepjeaa
