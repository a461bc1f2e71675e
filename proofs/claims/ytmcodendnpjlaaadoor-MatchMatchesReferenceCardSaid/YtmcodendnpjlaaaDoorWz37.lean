/- Chapter 37: the reference's better. -/
import Derived.Test.YtmcodendnpjlaaaDoorWq37
namespace Go.Proofs.YtmcodendnpjlaaaDoor
open Go.RowKit
attribute [local go_sem] Oper.semAt_some

/-- The better one: is the second one taken? -/
def takeB (l1 l2 : List (Int × Int)) (x1 x2 : Int) : Bool := decide (x2 < x1) || (decide (x2 = x1) && lessT l2 l1)

set_option maxRecDepth 100000 in
set_option maxHeartbeats 16000000 in
theorem better_any (o1 o2 : Option Addr) (c1 c2 : Nat) (l1 l2 : List (Int × Int)) (x1 x2 : Int) (w : World) (h1 : Twos w o1 l1) (h2 : Twos w o2 l2) (hl2 : l2.length ≤ 9000000000000000000) :
    Calls Tryd.prog 31 #[fdV o1 l1.length c1 x1, fdV o2 l2.length c2 x2] w (Ret (if takeB l1 l2 x1 x2 then fdV o2 l2.length c2 x2 else fdV o1 l1.length c1 x1) w) := by
  have H1 := Lib.hid h1
  have H2 := Lib.hid h2
  clear h1 h2
  obtain ⟨V, hV⟩ : ∃ V, takeB l1 l2 x1 x2 = V := ⟨_, rfl⟩
  rw [hV]
  have HV := Lib.hid (show (decide (x2 < x1) || (decide (x2 = x1) && lessT l2 l1)) = V from hV)
  clear hV
  go_enter Tryd.func31, Tryd.ntmps31
  obtain ⟨W3, hW3⟩ : ∃ W3, W3 = ((w.alloc (.cells #[.slice o1 l1.length c1, .int .i64 x1] 62)).alloc (.cells #[.slice o2 l2.length c2, .int .i64 x2] 62)).alloc (.cells #[.slice none 0 0, .int .i64 0] 62) := ⟨_, rfl⟩
  have HBW := Lib.hid (show Below w.heap.size w W3 by rw [hW3]; exact below_alloc (below_alloc (below_alloc (Below.refl _ _) _) _) _)
  have HP := Lib.hid (show Blk W3 w.heap.size 62 #[.slice o1 l1.length c1, .int .i64 x1] by rw [hW3]; exact ((Blk.new w _ _).alloc _).alloc _)
  have HQ := Lib.hid (show Blk W3 (w.heap.size + 1) 62 #[.slice o2 l2.length c2, .int .i64 x2] by rw [hW3]; have h := Blk.new (w.alloc (.cells #[.slice o1 l1.length c1, .int .i64 x1] 62)) 62 #[.slice o2 l2.length c2, .int .i64 x2]; rw [World.size_alloc] at h; exact h.alloc _)
  have HZW3 := Lib.hid (show Blk W3 (w.heap.size + 2) 62 #[.slice none 0 0, .int .i64 0] by rw [hW3]; have h := Blk.new ((w.alloc (.cells #[.slice o1 l1.length c1, .int .i64 x1] 62)).alloc (.cells #[.slice o2 l2.length c2, .int .i64 x2] 62)) 62 #[.slice none 0 0, .int .i64 0]; rw [World.size_alloc, World.size_alloc] at h; exact h)
  have HBB0 := Lib.hid (show w.heap.size ≤ w.heap.size + 2 from Nat.le_add_right _ _)
  go_upto_region 1 with (fail)
  try rw [← hW3]
  clear hW3
  obtain ⟨B, hB⟩ : ∃ B, w.heap.size = B := ⟨_, rfl⟩
  have HBB := Lib.hid (show w.heap.size ≤ B + 2 from hB ▸ HBB0.out)
  rw [hB] at HP HQ HZW3 ⊢
  clear hB HBB0
  have p1 : W3.cell? ⟨B, 1, none⟩ = some (.int .i64 x1) := HP.out.cell 1
  have r1 : W3.cell? ⟨B + 1, 1, none⟩ = some (.int .i64 x2) := HQ.out.cell 1
  by_cases hlt : x2 < x1
  · have d1 : decide (x2 < x1) = true := decide_eq_true hlt
    obtain rfl : true = V := by rw [← HV.out, d1]; rfl
    clear hlt r1
    have g0 : W3.cell? ⟨B + 1, 0, none⟩ = some (.slice o2 l2.length c2) := HQ.out.cell 0
    have g1 : W3.cell? ⟨B + 1, 1, none⟩ = some (.int .i64 x2) := HQ.out.cell 1
    have q0 : W3.cell? ⟨B + 2, 0, none⟩ = some (.slice none 0 0) := HZW3.out.cell 0
    have q1 : W3.cell? ⟨B + 2, 1, none⟩ = some (.int .i64 0) := HZW3.out.cell 1
    have f0 := HZW3.out.frozen 0
    have f1 := HZW3.out.frozen 1
    have HN := Lib.hid (show Blk ((W3.setCell ⟨B + 2, 0, none⟩ (.slice o2 l2.length c2)).setCell ⟨B + 2, 1, none⟩ (.int .i64 x2)) (B + 2) 62 #[.slice o2 l2.length c2, .int .i64 x2] from by simpa using (HZW3.out.set 0 (.slice o2 l2.length c2)).set 1 (.int .i64 x2))
    have HBN := Lib.hid ((HBW.out.setCell (p := ⟨B + 2, 0, none⟩) HBB.out (.slice o2 l2.length c2)).setCell (p := ⟨B + 2, 1, none⟩) HBB.out (.int .i64 x2))
    go_wp2
    try simp only [Exit.inBlock, Exit.then]
    refine bodyPost_ret (results_cell_row rfl _ _ (B + 2) 62 #[.slice o2 l2.length c2, .int .i64 x2] (0, 0) _ rfl HN.out Tryd.underlying62 rfl (by kernel_rfl)) rfl ?_
    exact ⟨rfl, HBN.out⟩
  have d1 : decide (x2 < x1) = false := decide_eq_false hlt
  by_cases heq : x2 = x1
  rotate_left
  · have d2 : (x2 == x1) = false := by simpa using heq
    obtain rfl : false = V := by rw [← HV.out, d1, decide_eq_false heq]; rfl
    clear hlt heq p1
    have g0 : W3.cell? ⟨B, 0, none⟩ = some (.slice o1 l1.length c1) := HP.out.cell 0
    have g1 : W3.cell? ⟨B, 1, none⟩ = some (.int .i64 x1) := HP.out.cell 1
    have q0 : W3.cell? ⟨B + 2, 0, none⟩ = some (.slice none 0 0) := HZW3.out.cell 0
    have q1 : W3.cell? ⟨B + 2, 1, none⟩ = some (.int .i64 0) := HZW3.out.cell 1
    have f0 := HZW3.out.frozen 0
    have f1 := HZW3.out.frozen 1
    have HN := Lib.hid (show Blk ((W3.setCell ⟨B + 2, 0, none⟩ (.slice o1 l1.length c1)).setCell ⟨B + 2, 1, none⟩ (.int .i64 x1)) (B + 2) 62 #[.slice o1 l1.length c1, .int .i64 x1] from by simpa using (HZW3.out.set 0 (.slice o1 l1.length c1)).set 1 (.int .i64 x1))
    have HBN := Lib.hid ((HBW.out.setCell (p := ⟨B + 2, 0, none⟩) HBB.out (.slice o1 l1.length c1)).setCell (p := ⟨B + 2, 1, none⟩) HBB.out (.int .i64 x1))
    go_wp2
    try simp only [Exit.inBlock, Exit.then]
    refine bodyPost_ret (results_cell_row rfl _ _ (B + 2) 62 #[.slice o1 l1.length c1, .int .i64 x1] (0, 0) _ rfl HN.out Tryd.underlying62 rfl (by kernel_rfl)) rfl ?_
    exact ⟨rfl, HBN.out⟩
  subst heq
  have HV2 := Lib.hid (show lessT l2 l1 = V by rw [← HV.out, d1]; simp)
  have p0 : W3.cell? ⟨B, 0, none⟩ = some (.slice o1 l1.length c1) := HP.out.cell 0
  have r0 : W3.cell? ⟨B + 1, 0, none⟩ = some (.slice o2 l2.length c2) := HQ.out.cell 0
  cases V with
  | true =>
    have HRL := RLess_any o2 o1 c2 c1 l2 l1 W3 (H2.out.later HBW.out) (H1.out.later HBW.out) hl2
    rw [HV2.out] at HRL
    have HRL' := Lib.hid HRL
    clear HRL
    go_wp2_with fail
    refine HRL'.out.mono ?_
    rintro _ W4 ⟨rfl, hb⟩
    have HB4 := Lib.hid (below_step HBW.out hb)
    have HP4 := Lib.hid (HP.out.later hb)
    have HQ4 := Lib.hid (HQ.out.later hb)
    have HZW4 := Lib.hid (HZW3.out.later hb)
    clear hb HBW HP HQ HZW3 p0 p1 r0 r1 d1 hlt HRL'
    have g0 : W4.cell? ⟨B + 1, 0, none⟩ = some (.slice o2 l2.length c2) := HQ4.out.cell 0
    have g1 : W4.cell? ⟨B + 1, 1, none⟩ = some (.int .i64 x2) := HQ4.out.cell 1
    have q0 : W4.cell? ⟨B + 2, 0, none⟩ = some (.slice none 0 0) := HZW4.out.cell 0
    have q1 : W4.cell? ⟨B + 2, 1, none⟩ = some (.int .i64 0) := HZW4.out.cell 1
    have f0 := HZW4.out.frozen 0
    have f1 := HZW4.out.frozen 1
    have HN := Lib.hid (show Blk ((W4.setCell ⟨B + 2, 0, none⟩ (.slice o2 l2.length c2)).setCell ⟨B + 2, 1, none⟩ (.int .i64 x2)) (B + 2) 62 #[.slice o2 l2.length c2, .int .i64 x2] from by simpa using (HZW4.out.set 0 (.slice o2 l2.length c2)).set 1 (.int .i64 x2))
    have HBN := Lib.hid ((HB4.out.setCell (p := ⟨B + 2, 0, none⟩) HBB.out (.slice o2 l2.length c2)).setCell (p := ⟨B + 2, 1, none⟩) HBB.out (.int .i64 x2))
    go_wp2
    try simp only [Exit.inBlock, Exit.then]
    refine bodyPost_ret (results_cell_row rfl _ _ (B + 2) 62 #[.slice o2 l2.length c2, .int .i64 x2] (0, 0) _ rfl HN.out Tryd.underlying62 rfl (by kernel_rfl)) rfl ?_
    exact ⟨rfl, HBN.out⟩
  | false =>
    have HRL := RLess_any o2 o1 c2 c1 l2 l1 W3 (H2.out.later HBW.out) (H1.out.later HBW.out) hl2
    rw [HV2.out] at HRL
    have HRL' := Lib.hid HRL
    clear HRL
    go_wp2_with fail
    refine HRL'.out.mono ?_
    rintro _ W4 ⟨rfl, hb⟩
    have HB4 := Lib.hid (below_step HBW.out hb)
    have HP4 := Lib.hid (HP.out.later hb)
    have HQ4 := Lib.hid (HQ.out.later hb)
    have HZW4 := Lib.hid (HZW3.out.later hb)
    clear hb HBW HP HQ HZW3 p0 p1 r0 r1 d1 hlt HRL'
    have g0 : W4.cell? ⟨B, 0, none⟩ = some (.slice o1 l1.length c1) := HP4.out.cell 0
    have g1 : W4.cell? ⟨B, 1, none⟩ = some (.int .i64 x2) := HP4.out.cell 1
    have q0 : W4.cell? ⟨B + 2, 0, none⟩ = some (.slice none 0 0) := HZW4.out.cell 0
    have q1 : W4.cell? ⟨B + 2, 1, none⟩ = some (.int .i64 0) := HZW4.out.cell 1
    have f0 := HZW4.out.frozen 0
    have f1 := HZW4.out.frozen 1
    have HN := Lib.hid (show Blk ((W4.setCell ⟨B + 2, 0, none⟩ (.slice o1 l1.length c1)).setCell ⟨B + 2, 1, none⟩ (.int .i64 x2)) (B + 2) 62 #[.slice o1 l1.length c1, .int .i64 x2] from by simpa using (HZW4.out.set 0 (.slice o1 l1.length c1)).set 1 (.int .i64 x2))
    have HBN := Lib.hid ((HB4.out.setCell (p := ⟨B + 2, 0, none⟩) HBB.out (.slice o1 l1.length c1)).setCell (p := ⟨B + 2, 1, none⟩) HBB.out (.int .i64 x2))
    go_wp2
    try simp only [Exit.inBlock, Exit.then]
    refine bodyPost_ret (results_cell_row rfl _ _ (B + 2) 62 #[.slice o1 l1.length c1, .int .i64 x2] (0, 0) _ rfl HN.out Tryd.underlying62 rfl (by kernel_rfl)) rfl ?_
    exact ⟨rfl, HBN.out⟩
end Go.Proofs.YtmcodendnpjlaaaDoor
