/- Chapter 37: head. -/
import Derived.Test.YtmcodendnpjlaaaDoorWl37
namespace Go.Proofs.YtmcodendnpjlaaaDoor
open Go.RowKit
attribute [local go_sem] Oper.semAt_some

def hIn : List Ps := [⟨⟨#[65, 66, 49]⟩, 5⟩, ⟨⟨#[67, 68, 50]⟩, 6⟩]
def hOut : List Ps := [⟨⟨#[67, 68, 90]⟩, 9⟩, ⟨⟨#[65, 66, 49]⟩, 10⟩]
def hBad : List Ps := [⟨⟨#[97, 98]⟩, 0⟩]
set_option maxRecDepth 100000 in
theorem hBest1 : best hIn hOut = ⟨[(0, 1), (1, 0)], 1⟩ := by
  have h : (best hIn hOut).pairs = [(0, 1), (1, 0)] ∧ (best hIn hOut).cost = 1 := by decide
  rcases hb : best hIn hOut with ⟨a, b⟩
  rw [hb] at h
  obtain ⟨h1, h2⟩ := h
  simp only at h1 h2
  rw [h1, h2]
set_option maxRecDepth 100000 in
theorem hBest2 : best hOut hIn = ⟨[], 20⟩ := by
  have h : (best hOut hIn).pairs = [] ∧ (best hOut hIn).cost = 20 := by decide
  rcases hb : best hOut hIn with ⟨a, b⟩
  rw [hb] at h
  obtain ⟨h1, h2⟩ := h
  simp only at h1 h2
  rw [h1, h2]
set_option maxRecDepth 100000 in
theorem hVal : validP hIn = true ∧ validP hOut = true ∧ validP hBad = false := by decide
set_option maxRecDepth 100000 in
theorem hCost1 : costO hIn hOut [(0, 1), (1, 0)] = some 1 := by decide
set_option maxRecDepth 100000 in
theorem hCost2 : costO hIn hOut [(0, 1), (1, 1)] = none := by decide

theorem pss_two {w : World} {g : Nat} {t : TypeId} {p q : Ps} (h : Blk w g t #[.string p.s, .int .i64 p.mn, .string q.s, .int .i64 q.mn]) : Pss w (some ⟨g, 0, none⟩) [p, q] := fun i hi => by
  have : i = 0 ∨ i = 1 := by simp at hi; omega
  rcases this with rfl | rfl
  · exact ⟨g, 0, rfl, h.cell 0, h.cell 1⟩
  · exact ⟨g, 0, rfl, h.cell 2, h.cell 3⟩
theorem pss_one {w : World} {g : Nat} {t : TypeId} {p : Ps} (h : Blk w g t #[.string p.s, .int .i64 p.mn]) : Pss w (some ⟨g, 0, none⟩) [p] := fun i hi => by
  obtain rfl : i = 0 := by simp at hi; omega
  exact ⟨g, 0, rfl, h.cell 0, h.cell 1⟩
theorem pss_nil (w : World) : Pss w none [] := fun i hi => by simp at hi
theorem twos_two {w : World} {g : Nat} {t : TypeId} {p q : Int × Int} (h : Blk w g t #[.int .i64 p.1, .int .i64 p.2, .int .i64 q.1, .int .i64 q.2]) : Twos w (some ⟨g, 0, none⟩) [p, q] := fun i hi => by
  have : i = 0 ∨ i = 1 := by simp at hi; omega
  rcases this with rfl | rfl
  · exact ⟨g, 0, rfl, h.cell 0, h.cell 1⟩
  · exact ⟨g, 0, rfl, h.cell 2, h.cell 3⟩

set_option maxRecDepth 100000 in
set_option maxHeartbeats 16000000 in
theorem head_any (w : World) (hT : Tab w) : Calls Tryd.prog 11 #[] w (Ret (.bool true) w) := by
  have HT := Lib.hid hT
  clear hT
  go_enter Tryd.func11, Tryd.ntmps11
  obtain ⟨W1, hW1⟩ : ∃ W1, W1 = (w.alloc (.cells #[.string ⟨#[65, 66, 49]⟩, .int .i64 5, .string ⟨#[67, 68, 50]⟩, .int .i64 6] 35)).alloc (.cells #[.string ⟨#[67, 68, 90]⟩, .int .i64 9, .string ⟨#[65, 66, 49]⟩, .int .i64 10] 35) := ⟨_, rfl⟩
  have HB1 := Lib.hid (show Below w.heap.size w W1 by rw [hW1]; exact below_alloc (below_alloc (Below.refl _ _) _) _)
  have HI1 := Lib.hid (show Pss W1 (some ⟨w.heap.size, 0, none⟩) hIn by rw [hW1]; exact pss_two (p := ⟨⟨#[65, 66, 49]⟩, 5⟩) (q := ⟨⟨#[67, 68, 50]⟩, 6⟩) ((Blk.new w 35 _).alloc _))
  have HO1 := Lib.hid (show Pss W1 (some ⟨w.heap.size + 1, 0, none⟩) hOut by rw [hW1, ← World.size_alloc w (.cells #[.string ⟨#[65, 66, 49]⟩, .int .i64 5, .string ⟨#[67, 68, 50]⟩, .int .i64 6] 35)]; exact pss_two (p := ⟨⟨#[67, 68, 90]⟩, 9⟩) (q := ⟨⟨#[65, 66, 49]⟩, 10⟩) (Blk.new _ 35 _))
  go_upto_region 3 with (fail)
  rw [← hW1]
  clear hW1
  obtain ⟨GB, hGB⟩ : ∃ B, w.heap.size = B := ⟨_, rfl⟩
  rw [hGB] at HI1 HO1 ⊢
  clear hGB
  go_wp2_with fail
  refine (Match_any (some ⟨GB, 0, none⟩) (some ⟨GB + 1, 0, none⟩) 2 2 hIn hOut W1 HI1.out HO1.out (HT.out.below HB1.out) (by decide) (by decide)).mono ?_
  rintro _ W2 ⟨hb, ⟨_, oA, cA, rfl, hta⟩ | ⟨hbad, _⟩⟩
  rotate_left
  · rw [hVal.1, hVal.2.1] at hbad; cases hbad
  rw [hBest1] at hta ⊢
  have HB2 := Lib.hid (below_step HB1.out hb)
  have HI2 := Lib.hid (HI1.out.later hb)
  have HO2 := Lib.hid (HO1.out.later hb)
  have HA2 := Lib.hid hta
  clear hb hta HB1 HI1 HO1
  go_wp2_with fail
  refine (CostM_any (some ⟨GB, 0, none⟩) (some ⟨GB + 1, 0, none⟩) oA 2 2 cA hIn hOut [(0, 1), (1, 0)] W2 HI2.out HO2.out HA2.out (HT.out.below HB2.out) (by decide) (by decide) (by decide)).mono ?_
  rw [hCost1]
  rintro _ W3 ⟨rfl, hb⟩
  have HB3 := Lib.hid (below_step HB2.out hb)
  have HI3 := Lib.hid (HI2.out.later hb)
  have HO3 := Lib.hid (HO2.out.later hb)
  have HA3 := Lib.hid (HA2.out.later hb)
  clear hb HB2 HI2 HO2 HA2
  go_wp2_with fail
  refine (Match_any (some ⟨GB + 1, 0, none⟩) (some ⟨GB, 0, none⟩) 2 2 hOut hIn W3 HO3.out HI3.out (HT.out.below HB3.out) (by decide) (by decide)).mono ?_
  rintro _ W4 ⟨hb, ⟨_, oC, cC, rfl, _⟩ | ⟨hbad, _⟩⟩
  rotate_left
  · rw [hVal.1, hVal.2.1] at hbad; cases hbad
  rw [hBest2]
  have HB4 := Lib.hid (below_step HB3.out hb)
  have HI4 := Lib.hid (HI3.out.later hb)
  have HO4 := Lib.hid (HO3.out.later hb)
  have HA4 := Lib.hid (HA3.out.later hb)
  clear hb HB3 HI3 HO3 HA3
  have HP4 := Lib.hid (show Twos (W4.alloc (.cells #[.int .i64 0, .int .i64 1, .int .i64 1, .int .i64 1] 48)) (some ⟨W4.heap.size, 0, none⟩) [(0, 1), (1, 1)] from twos_two (p := (0, 1)) (q := (1, 1)) (Blk.new W4 48 _))
  have HBa := Lib.hid (show Below W4.heap.size W4 (W4.alloc (.cells #[.int .i64 0, .int .i64 1, .int .i64 1, .int .i64 1] 48)) from below_alloc (Below.refl _ _) _)
  go_wp2_with fail
  refine (CostM_any (some ⟨GB, 0, none⟩) (some ⟨GB + 1, 0, none⟩) (some ⟨W4.heap.size, 0, none⟩) 2 2 2 hIn hOut [(0, 1), (1, 1)] _ (HI4.out.later HBa.out) (HO4.out.later HBa.out) HP4.out (HT.out.below (below_step HB4.out HBa.out)) (by decide) (by decide) (by decide)).mono ?_
  rw [hCost2]
  rintro _ W5 ⟨rfl, hb⟩
  have HB5 := Lib.hid (below_step (below_step HB4.out HBa.out) hb)
  have HA5 := Lib.hid ((HA4.out.later HBa.out).later hb)
  clear hb HB4 HI4 HO4 HA4 HP4 HBa
  have HQ5 := Lib.hid (show Pss (W5.alloc (.cells #[.string ⟨#[97, 98]⟩, .int .i64 0] 35)) (some ⟨W5.heap.size, 0, none⟩) hBad from pss_one (p := ⟨⟨#[97, 98]⟩, 0⟩) (Blk.new W5 35 _))
  have HBa := Lib.hid (show Below W5.heap.size W5 (W5.alloc (.cells #[.string ⟨#[97, 98]⟩, .int .i64 0] 35)) from below_alloc (Below.refl _ _) _)
  go_wp2_with fail
  refine (Match_any (some ⟨W5.heap.size, 0, none⟩) none 1 0 hBad [] _ HQ5.out (pss_nil _) (HT.out.below (below_step HB5.out HBa.out)) (by decide) (by decide)).mono ?_
  rintro _ W6 ⟨hb, ⟨hbad, _⟩ | ⟨_, rfl⟩⟩
  · rw [hVal.2.2] at hbad; cases hbad
  have HB6 := Lib.hid (below_step (below_step HB5.out HBa.out) hb)
  have HA6 := Lib.hid ((HA5.out.later HBa.out).later hb)
  clear hb HB5 HA5 HQ5 HBa
  have HP6 := Lib.hid (show Twos (W6.alloc (.cells #[.int .i64 0, .int .i64 1, .int .i64 1, .int .i64 0] 48)) (some ⟨W6.heap.size, 0, none⟩) [(0, 1), (1, 0)] from twos_two (p := (0, 1)) (q := (1, 0)) (Blk.new W6 48 _))
  have HBa := Lib.hid (show Below W6.heap.size W6 (W6.alloc (.cells #[.int .i64 0, .int .i64 1, .int .i64 1, .int .i64 0] 48)) from below_alloc (Below.refl _ _) _)
  go_wp2_with fail
  refine (Same_any oA (some ⟨W6.heap.size, 0, none⟩) cA 2 [(0, 1), (1, 0)] [(0, 1), (1, 0)] _ (HA6.out.later HBa.out) HP6.out (by decide)).mono ?_
  rintro _ W7 ⟨rfl, hb⟩
  have HB7 := Lib.hid (below_step (below_step HB6.out HBa.out) hb)
  clear hb HB6 HA6 HP6 HBa
  go_wp2
  go_ret
  exact ⟨rfl, HB7.out⟩
end Go.Proofs.YtmcodendnpjlaaaDoor
