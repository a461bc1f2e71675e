/- Chapter 07: Hot, the reference's Valid, head. -/
import Derived.Test.YtmiedlgcdkggdaaWe07
import Derived.Laws.EntriesVeiled
namespace Go.Proofs.Ytmiedlgcdkggdaa
open Go.RowKit

/-- A cable, boxed by a call at its beginning; nothing else that was there has changed. -/
structure CB (w wr : World) (a m g l d : Int) : Prop where
  blk : Blk wr w.heap.size 23 #[.int .i64 a, .int .i64 m, .int .i64 g, .int .i64 l, .int .i64 d]
  below : Below w.heap.size w wr

theorem CB.new (w : World) (a m g l d : Int) : CB w (w.alloc (.cells #[.int .i64 a, .int .i64 m, .int .i64 g, .int .i64 l, .int .i64 d] 23)) a m g l d :=
  ⟨Blk.new .., below_alloc (Below.refl _ _) _⟩
theorem CB.later {w wr wr' : World} {a m g l d : Int} (h : CB w wr a m g l d) (hb : Below wr.heap.size wr wr') : CB w wr' a m g l d := ⟨h.blk.later hb, below_step h.below hb⟩
theorem CB.cells {w wr : World} {a m g l d : Int} (h : CB w wr a m g l d) : wr.cell? ⟨w.heap.size, 0, none⟩ = some (.int .i64 a) ∧ wr.cell? ⟨w.heap.size, 1, none⟩ = some (.int .i64 m) ∧ wr.cell? ⟨w.heap.size, 2, none⟩ = some (.int .i64 g) ∧ wr.cell? ⟨w.heap.size, 3, none⟩ = some (.int .i64 l) ∧ wr.cell? ⟨w.heap.size, 4, none⟩ = some (.int .i64 d) :=
  ⟨h.blk.cell 0, h.blk.cell 1, h.blk.cell 2, h.blk.cell 3, h.blk.cell 4⟩

set_option maxHeartbeats 2000000 in
theorem Hot_any (a m g l d t : Int) (oa : Option Addr) (cap : Nat) (xs : List Int) (w : World) (hx : Ints w oa xs) (hl : xs.length ≤ 1000000) (hv : validC a m g l d = true) (ht : 0 ≤ t ∧ t ≤ 1000000000) (hxi : ∀ i, i < xs.length → 0 ≤ xs.getD i 0 ∧ xs.getD i 0 ≤ 1000) :
    Calls Try.prog 12 #[cabV a m g l d, .int .i64 t, .slice oa xs.length cap] w (Ret (.tuple #[.int .i64 (hotAt a m g l d t 0 xs), .int .i64 0]) w) := by
  have HX := Lib.hid hx
  have HV := Lib.hid hv
  have HT := Lib.hid (show isT t = true by simp [isT, ht])
  have HXI := Lib.hid hxi
  obtain ⟨V, hV⟩ : ∃ V, hotAt a m g l d t 0 xs = V := ⟨_, rfl⟩
  rw [hV]
  have HVV := Lib.hid hV
  clear hx hxi hV hv
  go_enter Try.func12, Try.ntmps12
  go_wp2_with fail
  refine (valid_any a m g l d _).mono ?_
  rintro e w1 ⟨rfl, hb⟩
  rw [HV.out]
  have hC : CB w w1 a m g l d := ((CB.new w a m g l d).later (below_alloc (Below.refl _ _) _)).later hb
  have hS : Blk w1 (w.heap.size + 1) 24 #[.slice oa xs.length cap] := by
    have := (Blk.new (w.alloc (.cells #[.int .i64 a, .int .i64 m, .int .i64 g, .int .i64 l, .int .i64 d] 23)) 24 #[.slice oa xs.length cap]).later hb
    simpa using this
  obtain ⟨k0, k1, k2, k3, k4⟩ := hC.cells
  have k5 := hS.cell 0
  simp at k5
  have HC := Lib.hid hC
  have HS := Lib.hid hS
  clear hb hC hS
  go_wp2_with fail
  refine (isTemp_any _ _).mono ?_
  rintro e w2 ⟨rfl, rfl⟩
  rw [HT.out]
  go_wp2
  go_loop [23] (fun i => ∃ k : Nat, k ≤ xs.length ∧ i = .int .i64 k) (fun i => xs.length - (intOf i).toNat)
  case atStart => exact ⟨0, Nat.zero_le _, rfl⟩
  case round =>
    obtain ⟨k, hk, rfl⟩ := hrel
    by_cases hlt : k < xs.length
    · obtain ⟨gb, off, rfl, hcx⟩ := (HX.out.later HC.out.below) k hlt
      have HI : Hid (isI (xs.getD k 0) = true) := Lib.hid (by have := HXI.out k hlt; simp only [isI, decide_eq_true_eq]; exact this)
      obtain ⟨x, hx'⟩ : ∃ x, xs.getD k 0 = x := ⟨_, rfl⟩
      rw [hx'] at HI hcx
      clear hx' k0 k1 k2 k3 k4 k5
      go_wp2_with fail
      refine (isCurrent_any _ _).mono ?_
      rintro e w3 ⟨rfl, rfl⟩
      rw [HI.out]
      go_wp2
      go_round
      case rel => exact ⟨k + 1, by omega, by go_num⟩
      case measure => simp [intOf]; omega
    · obtain rfl : k = xs.length := by omega
      have HST : Hid (HotSt w (((w2.alloc (.cells #[.int .i64 a, .int .i64 m, .int .i64 g, .int .i64 l, .int .i64 d, .int .i64 t] 38)).alloc (.cells #[.func (.func 20) #[.pointer (some ⟨w2.heap.size, 0, none⟩)] #[]] 42)).alloc (.cells #[.func (.func 21) #[.pointer (some ⟨w2.heap.size, 0, none⟩)] #[]] 25)) (w.heap.size + 1) (w2.heap.size + 1) (w2.heap.size + 1 + 1) w2.heap.size oa cap xs a m g l d t) := by
        have hlt1 : w.heap.size + 1 < w2.heap.size := HS.out.lt
        refine Lib.hid ⟨Blk.alloc (Blk.alloc (Blk.new ..) _) _, ?_, ?_, ?_, by omega, by omega, by omega, HC.out.below.size, below_alloc (below_alloc (below_alloc HC.out.below _) _) _⟩
        · exact (Blk.alloc (Blk.alloc (Blk.alloc HS.out _) _) _).cell 0
        · have := ((Blk.new (w2.alloc (.cells #[.int .i64 a, .int .i64 m, .int .i64 g, .int .i64 l, .int .i64 d, .int .i64 t] 38)) 42 #[.func (.func 20) #[.pointer (some ⟨w2.heap.size, 0, none⟩)] #[]]).alloc (.cells #[.func (.func 21) #[.pointer (some ⟨w2.heap.size, 0, none⟩)] #[]] 25)).cell 0
          simpa using this
        · have := (Blk.new ((w2.alloc (.cells #[.int .i64 a, .int .i64 m, .int .i64 g, .int .i64 l, .int .i64 d, .int .i64 t] 38)).alloc (.cells #[.func (.func 20) #[.pointer (some ⟨w2.heap.size, 0, none⟩)] #[]] 42)) 25 #[.func (.func 21) #[.pointer (some ⟨w2.heap.size, 0, none⟩)] #[]]).cell 0
          simpa using this
      have hlt1 : w.heap.size + 1 < w2.heap.size := HS.out.lt
      have k6 := HST.out.c5
      go_wp2_with fail
      clear k0 k1 k2 k3 k4 k5
      refine (first_any w (w.heap.size + 1) (w2.heap.size + 1) (w2.heap.size + 1 + 1) w2.heap.size oa cap xs a m g l d t _ HST.out HX.out hl HV.out ht HXI.out).mono ?_
      rw [HVV.out]
      rintro e w4 ⟨rfl, hb⟩
      have HB := Lib.hid hb
      clear hb HST
      go_wp2
      go_ret2
      exact ⟨rfl, HB.out⟩

set_option maxHeartbeats 1000000 in
theorem refValid_any (a m g l d : Int) (w : World) : Calls Try.prog 9 #[cabV a m g l d] w (Ret (.bool (validC a m g l d)) w) := by
  cases hz : zeroC a m g l d with
  | true =>
    obtain ⟨rfl, rfl, rfl, rfl, rfl⟩ := zeroC_iff.1 hz
    have hv : validC 0 0 0 0 0 = true := by decide
    rw [hv]
    clear hz
    go_enter Try.func9, Try.ntmps9
    go_wp2
    go_ret
    exact ⟨rfl, by go_grown⟩
  | false =>
    have hv : validC a m g l d = boundC a m g l d := by simp [validC, hz]
    rw [hv]
    have HZ := Lib.hid hz
    clear hz hv
    go_enter Try.func9, Try.ntmps9
    go_wp2
    all_goals
      go_ret
      refine ⟨ret_bool ?_, by go_grown⟩
      have hz := HZ.out
      clear HZ
      rw [Bool.eq_iff_iff]
      simp only [zeroC, boundC, decide_eq_true_eq, decide_eq_false_iff_not, Bool.false_eq_true, true_iff, false_iff] at *
      omega

end Go.Proofs.Ytmiedlgcdkggdaa
