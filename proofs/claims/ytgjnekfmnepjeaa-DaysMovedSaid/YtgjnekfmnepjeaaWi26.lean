/- Chapter 26: the fixed examples. -/
import Derived.Test.YtgjnekfmnepjeaaWh26
namespace Go.Proofs.Ytgjnekfmnepjeaa
open Go.RowKit

/-- The calendar of the examples. -/
structure HeadW (w wr : World) : Prop where
  c : Twos wr (some ⟨w.heap.size, 0, none⟩) [(5000, 120)]
  h : Ints wr (some ⟨w.heap.size + 1, 0, none⟩) [2]
  c0 : wr.cell? ⟨w.heap.size + 1 + 1, 0, none⟩ = some (.int .i64 60)
  c1 : wr.cell? ⟨w.heap.size + 1 + 1, 1, none⟩ = some (.slice (some ⟨w.heap.size, 0, none⟩) 1 1)
  c2 : wr.cell? ⟨w.heap.size + 1 + 1, 2, none⟩ = some (.slice (some ⟨w.heap.size + 1, 0, none⟩) 1 1)
  below : Below w.heap.size w wr

theorem HeadW.later {w wr wr' : World} (h : HeadW w wr) (hb : Below wr.heap.size wr wr') : HeadW w wr' :=
  ⟨h.c.later hb, h.h.later hb, cell_kept hb h.c0, cell_kept hb h.c1, cell_kept hb h.c2, below_step h.below hb⟩

theorem HeadW.new (w : World) : HeadW w (((w.alloc (.cells #[.int .i64 5000, .int .i64 120] 37)).alloc (.cells #[.int .i64 2] 3)).alloc (.cells #[.int .i64 60, .slice (some ⟨w.heap.size, 0, none⟩) 1 1, .slice (some ⟨w.heap.size + 1, 0, none⟩) 1 1] 25)) := by
  have b1 := (((Blk.new w 37 #[.int .i64 5000, .int .i64 120]).alloc (.cells #[.int .i64 2] 3)).alloc (.cells #[.int .i64 60, .slice (some ⟨w.heap.size, 0, none⟩) 1 1, .slice (some ⟨w.heap.size + 1, 0, none⟩) 1 1] 25))
  have b2 := ((Blk.new (w.alloc (.cells #[.int .i64 5000, .int .i64 120] 37)) 3 #[.int .i64 2]).alloc (.cells #[.int .i64 60, .slice (some ⟨w.heap.size, 0, none⟩) 1 1, .slice (some ⟨w.heap.size + 1, 0, none⟩) 1 1] 25))
  have b3 := Blk.new ((w.alloc (.cells #[.int .i64 5000, .int .i64 120] 37)).alloc (.cells #[.int .i64 2] 3)) 25 #[.int .i64 60, .slice (some ⟨w.heap.size, 0, none⟩) 1 1, .slice (some ⟨w.heap.size + 1, 0, none⟩) 1 1]
  simp only [World.size_alloc] at b2 b3
  refine ⟨fun i hi => ?_, fun i hi => ?_, b3.cell 0, b3.cell 1, b3.cell 2, below_alloc (below_alloc (newBelow ..) _) _⟩
  · obtain rfl : i = 0 := by simpa using hi
    exact ⟨_, _, rfl, b1.cell 0, b1.cell 1⟩
  · obtain rfl : i = 0 := by simpa using hi
    exact ⟨_, _, rfl, b2.cell 0⟩

set_option maxHeartbeats 2000000 in
theorem head_any (w : World) : Calls Try.prog 10 #[] w (Ret (.bool true) w) := by
  go_enter Try.func10, Try.ntmps10
  go_wp2_with fail
  have H := Lib.hid (HeadW.new w)
  refine (local_any 60 (-1) (some ⟨w.heap.size, 0, none⟩) (some ⟨w.heap.size + 1, 0, none⟩) 1 1 [(5000, 120)] [2] _ H.out.c H.out.h).mono ?_
  rintro e w1 ⟨rfl, hb⟩
  rw [show localV 60 [(5000, 120)] [2] (-1) = .tuple #[.int .i64 0, .int .i64 0, .int .i64 1] by rfl]
  replace H := Lib.hid (H.out.later hb)
  clear hb
  have c0 := H.out.c0
  have c1 := H.out.c1
  have c2 := H.out.c2
  go_wp2_with fail
  refine (type_any 60 (-2) (some ⟨w.heap.size, 0, none⟩) (some ⟨w.heap.size + 1, 0, none⟩) 1 1 [(5000, 120)] [2] _ H.out.c H.out.h).mono ?_
  rintro e w1 ⟨rfl, hb⟩
  rw [show typeV 60 [(5000, 120)] [2] (-2) = .tuple #[.int .i64 0, .int .i64 1] by rfl]
  replace H := Lib.hid (H.out.later hb)
  clear c0 c1 c2 hb
  have c0 := H.out.c0
  have c1 := H.out.c1
  have c2 := H.out.c2
  go_wp2_with fail
  refine (at_true 60 0 0 60 (some ⟨w.heap.size, 0, none⟩) (some ⟨w.heap.size + 1, 0, none⟩) 1 1 [(5000, 120)] [2] _ H.out.c H.out.h (by rfl)).mono ?_
  rintro e w1 ⟨rfl, hb⟩
  replace H := Lib.hid (H.out.later hb)
  clear c0 c1 c2 hb
  have c0 := H.out.c0
  have c1 := H.out.c1
  have c2 := H.out.c2
  go_wp2_with fail
  refine (at_true 60 1379 0 1439 (some ⟨w.heap.size, 0, none⟩) (some ⟨w.heap.size + 1, 0, none⟩) 1 1 [(5000, 120)] [2] _ H.out.c H.out.h (by rfl)).mono ?_
  rintro e w1 ⟨rfl, hb⟩
  replace H := Lib.hid (H.out.later hb)
  clear c0 c1 c2 hb
  have c0 := H.out.c0
  have c1 := H.out.c1
  have c2 := H.out.c2
  go_wp2_with fail
  refine (at_true 60 1380 1 0 (some ⟨w.heap.size, 0, none⟩) (some ⟨w.heap.size + 1, 0, none⟩) 1 1 [(5000, 120)] [2] _ H.out.c H.out.h (by rfl)).mono ?_
  rintro e w1 ⟨rfl, hb⟩
  replace H := Lib.hid (H.out.later hb)
  clear c0 c1 c2 hb
  have c0 := H.out.c0
  have c1 := H.out.c1
  have c2 := H.out.c2
  go_wp2_with fail
  refine (at_true 60 4999 3 739 (some ⟨w.heap.size, 0, none⟩) (some ⟨w.heap.size + 1, 0, none⟩) 1 1 [(5000, 120)] [2] _ H.out.c H.out.h (by rfl)).mono ?_
  rintro e w1 ⟨rfl, hb⟩
  replace H := Lib.hid (H.out.later hb)
  clear c0 c1 c2 hb
  have c0 := H.out.c0
  have c1 := H.out.c1
  have c2 := H.out.c2
  go_wp2_with fail
  refine (at_true 60 5000 3 800 (some ⟨w.heap.size, 0, none⟩) (some ⟨w.heap.size + 1, 0, none⟩) 1 1 [(5000, 120)] [2] _ H.out.c H.out.h (by rfl)).mono ?_
  rintro e w1 ⟨rfl, hb⟩
  replace H := Lib.hid (H.out.later hb)
  clear c0 c1 c2 hb
  have c0 := H.out.c0
  have c1 := H.out.c1
  have c2 := H.out.c2
  go_wp2_with fail
  refine (at_true (-1) 0 (-1) 1439 none none 0 0 [] [] _ Twos.nil Ints.nil (by rfl)).mono ?_
  rintro e w1 ⟨rfl, hb⟩
  replace H := Lib.hid (H.out.later hb)
  clear c0 c1 c2 hb
  have c0 := H.out.c0
  have c1 := H.out.c1
  have c2 := H.out.c2
  go_wp2_with fail
  refine (is_true 60 0 0 (some ⟨w.heap.size, 0, none⟩) (some ⟨w.heap.size + 1, 0, none⟩) 1 1 [(5000, 120)] [2] _ H.out.c H.out.h (by rfl)).mono ?_
  rintro e w1 ⟨rfl, hb⟩
  replace H := Lib.hid (H.out.later hb)
  clear c0 c1 c2 hb
  have c0 := H.out.c0
  have c1 := H.out.c1
  have c2 := H.out.c2
  go_wp2_with fail
  refine (is_true 60 2 2 (some ⟨w.heap.size, 0, none⟩) (some ⟨w.heap.size + 1, 0, none⟩) 1 1 [(5000, 120)] [2] _ H.out.c H.out.h (by rfl)).mono ?_
  rintro e w1 ⟨rfl, hb⟩
  replace H := Lib.hid (H.out.later hb)
  clear c0 c1 c2 hb
  have c0 := H.out.c0
  have c1 := H.out.c1
  have c2 := H.out.c2
  go_wp2_with fail
  refine (is_true 60 5 1 (some ⟨w.heap.size, 0, none⟩) (some ⟨w.heap.size + 1, 0, none⟩) 1 1 [(5000, 120)] [2] _ H.out.c H.out.h (by rfl)).mono ?_
  rintro e w1 ⟨rfl, hb⟩
  replace H := Lib.hid (H.out.later hb)
  clear c0 c1 c2 hb
  have c0 := H.out.c0
  have c1 := H.out.c1
  have c2 := H.out.c2
  go_wp2_with fail
  refine (is_true 60 6 2 (some ⟨w.heap.size, 0, none⟩) (some ⟨w.heap.size + 1, 0, none⟩) 1 1 [(5000, 120)] [2] _ H.out.c H.out.h (by rfl)).mono ?_
  rintro e w1 ⟨rfl, hb⟩
  replace H := Lib.hid (H.out.later hb)
  clear c0 c1 c2 hb
  have c0 := H.out.c0
  have c1 := H.out.c1
  have c2 := H.out.c2
  go_wp2_with fail
  refine (is_true 60 (-1) 2 (some ⟨w.heap.size, 0, none⟩) (some ⟨w.heap.size + 1, 0, none⟩) 1 1 [(5000, 120)] [2] _ H.out.c H.out.h (by rfl)).mono ?_
  rintro e w1 ⟨rfl, hb⟩
  replace H := Lib.hid (H.out.later hb)
  clear c0 c1 c2 hb
  have c0 := H.out.c0
  have c1 := H.out.c1
  have c2 := H.out.c2
  go_wp2_with fail
  refine (is_true 60 7 0 (some ⟨w.heap.size, 0, none⟩) (some ⟨w.heap.size + 1, 0, none⟩) 1 1 [(5000, 120)] [2] _ H.out.c H.out.h (by rfl)).mono ?_
  rintro e w1 ⟨rfl, hb⟩
  replace H := Lib.hid (H.out.later hb)
  clear c0 c1 c2 hb
  have c0 := H.out.c0
  have c1 := H.out.c1
  have c2 := H.out.c2
  go_wp2_with fail
  refine (valid_any 60 (some ⟨w.heap.size, 0, none⟩) (some ⟨w.heap.size + 1, 0, none⟩) 1 1 [(5000, 120)] [2] _ H.out.c H.out.h).mono ?_
  rintro e w1 ⟨rfl, hb⟩
  rw [show validCal 60 [(5000, 120)] [2] = true by rfl]
  replace H := Lib.hid (H.out.later hb)
  clear c0 c1 c2 hb
  have c0 := H.out.c0
  have c1 := H.out.c1
  have c2 := H.out.c2
  go_wp2_with fail
  refine (valid_any 1441 none none 0 0 [] [] _ Twos.nil Ints.nil).mono ?_
  rintro e w1 ⟨rfl, hb⟩
  rw [show validCal 1441 [] [] = false by rfl]
  replace H := Lib.hid (H.out.later hb)
  clear c0 c1 c2 hb
  have c0 := H.out.c0
  have c1 := H.out.c1
  have c2 := H.out.c2
  clear c0 c1 c2
  go_wp2
  go_ret
  exact ⟨rfl, H.out.below⟩

end Go.Proofs.Ytgjnekfmnepjeaa
