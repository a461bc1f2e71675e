/- Chapter 07: Permitted. -/
import Derived.Test.YtmiedlgcdkggdaaWc07
import Derived.Test.YtmiedlgcdkggdaaKitB
namespace Go.Proofs.Ytmiedlgcdkggdaa
open Go.RowKit

/-- What the closure of Permitted holds. -/
structure Room (w : World) (q4 q5 b : Nat) (a m g l d t R : Int) : Prop where
  warm : Warm w b a m g l d t
  c4 : w.cell? ⟨q4, 0, none⟩ = some (.pointer (some ⟨b, 0, none⟩))
  c5 : w.cell? ⟨q5, 0, none⟩ = some (.int .i64 R)

theorem Room.later {w w' : World} {q4 q5 b : Nat} {a m g l d t R : Int} (h : Room w q4 q5 b a m g l d t R) (hb : Below w.heap.size w w') : Room w' q4 q5 b a m g l d t R :=
  ⟨Blk.later h.warm hb, cell_kept hb h.c4, cell_kept hb h.c5⟩

set_option maxHeartbeats 1000000 in
theorem perm1_any (q4 q5 b : Nat) (a m g l d t R i : Int) (w : World) (h : Room w q4 q5 b a m g l d t R) (hg : 0 ≤ g) (hg2 : g ≤ 1000) (hi : 0 ≤ i) (hi2 : i ≤ 1000) :
    Calls Try.prog 17 #[.int .i64 i, .pointer (some ⟨q4, 0, none⟩), .pointer (some ⟨q5, 0, none⟩)] w (Ret (.bool (decide (g * i * i ≤ R))) w) := by
  obtain ⟨c0, c1, c2, c3, c4, c5⟩ := h.warm.cells
  have k4 := h.c4
  have k5 := h.c5
  have r1 := heat_range hg hg2 hi hi2
  obtain ⟨p, hp⟩ : ∃ p, g * i = p := ⟨_, rfl⟩
  rw [hp] at r1 ⊢
  obtain ⟨q, hq⟩ : ∃ q, p * i = q := ⟨_, rfl⟩
  rw [hq] at r1 ⊢
  have e1 := IntWalk.i64_in p (by omega)
  have e2 := IntWalk.i64_in q (by omega)
  clear h
  go_enter Try.func17, Try.ntmps17
  go_wp2_with fail
  go_quiet (fail)
  go_wp2
  go_ret
  exact ⟨rfl, below_drewN (Below.refl _ _) _⟩

set_option maxHeartbeats 1000000 in
theorem greatest_any (q4 q5 b : Nat) (a m g l d t R p : Int) (w : World) (h : Room w q4 q5 b a m g l d t R) (hg : 0 ≤ g) (hg2 : g ≤ 1000) (hp : PermitOf g R p) :
    Calls Try.prog 16 #[.int .i64 0, .int .i64 1000, .func (.func 17) #[] #[.pointer (some ⟨q4, 0, none⟩), .pointer (some ⟨q5, 0, none⟩)]] w (Ret (.int .i64 p) w) := by
  have HH := Lib.hid h
  have HP := Lib.hid hp
  have hp0 := hp.1
  have hp1 := hp.2.1
  clear h hp
  go_enter Try.func16, Try.ntmps16
  go_wp2
  go_loopw [0, 1] (fun u v wr => ∃ x y : Int, u = .int .i64 x ∧ v = .int .i64 y ∧ 0 ≤ x ∧ x ≤ p ∧ p ≤ y ∧ y ≤ 1000 ∧ Below w.heap.size w wr) (fun u v _ => (intOf v - intOf u).toNat)
  case atStart => exact ⟨0, 1000, rfl, rfl, by omega, hp0, hp1, by omega, Below.refl _ _⟩
  case round =>
    obtain ⟨x, y, rfl, rfl, hx0, hxp, hpy, hy, hb⟩ := hrel
    have HB := Lib.hid hb
    clear hb
    by_cases hlt : x < y
    · obtain ⟨z, hz⟩ : ∃ z, x + (y - x + 1) / 2 = z := ⟨_, rfl⟩
      have hz1 : x < z ∧ z ≤ y := by omega
      have HI := Lib.hid (permit_iff hg HP.out (i := z) (by omega) (by omega))
      go_wp2_with fail
      refine (perm1_any q4 q5 b a m g l d t R z _ (HH.out.later HB.out) hg hg2 (by omega) (by omega)).mono ?_
      rintro e w1 ⟨rfl, hb⟩
      replace HB := Lib.hid (below_step HB.out hb)
      clear hb hz
      by_cases hc : z ≤ p
      · have hd : decide (g * z * z ≤ R) = true := by simpa using HI.out.2 hc
        rw [hd]
        clear hd
        go_wp2
        go_roundw
        case rel => exact ⟨z, y, rfl, rfl, by omega, hc, hpy, hy, HB.out⟩
        case measure => simp [intOf]; omega
      · have hd : decide (g * z * z ≤ R) = false := by
          have : ¬ g * z * z ≤ R := fun h => hc (HI.out.1 h)
          simpa using this
        rw [hd]
        clear hd
        go_wp2
        go_roundw
        case rel => exact ⟨x, z - 1, rfl, rfl, hx0, hxp, by omega, by omega, HB.out⟩
        case measure => simp [intOf]; omega
    · obtain rfl : x = p := by omega
      go_wp2
      go_ret
      exact ⟨rfl, HB.out⟩

theorem room_nonneg {a m g l d : Int} (h : boundC a m g l d = true) : 0 ≤ min l d * (m - a) ∧ min l d * (m - a) ≤ 200000000 := by
  obtain ⟨b1, b2, b3, b4, b5, b6, b7, b8, b9, b10⟩ := boundC_iff.1 h
  have hm : 0 ≤ min l d ∧ min l d ≤ 1000 := by omega
  have := mul_range hm.1 hm.2 (show 0 ≤ m - a by omega) (show m - a ≤ 200000 by omega)
  omega

set_option maxHeartbeats 1000000 in
theorem permitted_bad (a m g l d : Int) (w : World) (hv : validC a m g l d = false) : Calls Try.prog 10 #[cabV a m g l d] w (Ret (.tuple #[.int .i64 0, .int .i64 1]) w) := by
  have HV := Lib.hid hv
  clear hv
  go_enter Try.func10, Try.ntmps10
  go_wp2_with fail
  refine (valid_any a m g l d _).mono ?_
  rintro e w1 ⟨rfl, hb⟩
  rw [HV.out]
  have HB := Lib.hid (below_step (below_alloc (Below.refl _ _) _) hb)
  clear hb
  go_wp2
  go_ret2
  exact ⟨rfl, HB.out⟩

set_option maxHeartbeats 1000000 in
theorem permitted_zero (a m g l d : Int) (w : World) (hz : zeroC a m g l d = true) : Calls Try.prog 10 #[cabV a m g l d] w (Ret (.tuple #[.int .i64 1000, .int .i64 0]) w) := by
  have hv : validC a m g l d = true := by simp [validC, hz]
  have HV := Lib.hid hv
  have HZ := Lib.hid hz
  clear hv hz
  go_enter Try.func10, Try.ntmps10
  go_wp2_with fail
  refine (valid_any a m g l d _).mono ?_
  rintro e w1 ⟨rfl, hb⟩
  rw [HV.out]
  have hbx := (Blk.new w 23 #[.int .i64 a, .int .i64 m, .int .i64 g, .int .i64 l, .int .i64 d]).later hb
  have k0 := hbx.cell 0
  have k1 := hbx.cell 1
  have k2 := hbx.cell 2
  have k3 := hbx.cell 3
  have k4 := hbx.cell 4
  have HB := Lib.hid (below_step (below_alloc (Below.refl _ _) _) hb)
  clear hb hbx
  simp at k0 k1 k2 k3 k4
  go_wp2_with fail
  clear k0 k1 k2 k3 k4
  refine (none_any w1.heap.size a m g l d 0 _ ?_).mono ?_
  · exact Blk.alloc (Blk.new ..) _
  rintro e w2 ⟨rfl, rfl⟩
  rw [HZ.out]
  go_wp2
  go_ret2
  exact ⟨rfl, below_alloc (below_alloc HB.out _) _⟩

set_option maxHeartbeats 2000000 in
theorem permitted_any (a m g l d p : Int) (w : World) (hv : boundC a m g l d = true) (hz : zeroC a m g l d = false) (hp : PermitOf g (min l d * (m - a)) p) : Calls Try.prog 10 #[cabV a m g l d] w (Ret (.tuple #[.int .i64 p, .int .i64 0]) w) := by
  have hvv : validC a m g l d = true := by simp [validC, hv]
  have HV := Lib.hid hvv
  have HZ := Lib.hid hz
  have HP := Lib.hid hp
  have hr := room_nonneg hv
  obtain ⟨b1, b2, b3, b4, b5, b6, b7, b8, b9, b10⟩ := boundC_iff.1 hv
  clear hv hz hp hvv
  obtain ⟨ll, hll⟩ : ∃ ll, min l d = ll := ⟨_, rfl⟩
  obtain ⟨s, hs⟩ : ∃ s, m - a = s := ⟨_, rfl⟩
  rw [hll, hs] at hr HP
  obtain ⟨R, hR⟩ : ∃ R, ll * s = R := ⟨_, rfl⟩
  rw [hR] at hr HP
  have e1 := IntWalk.i64_in s (by omega)
  have e2 := IntWalk.i64_in R (by omega)
  have HLL := Lib.hid hll
  clear hll
  go_enter Try.func10, Try.ntmps10
  go_wp2_with fail
  refine (valid_any a m g l d _).mono ?_
  rintro e w1 ⟨rfl, hb⟩
  rw [HV.out]
  have hbx := (Blk.new w 23 #[.int .i64 a, .int .i64 m, .int .i64 g, .int .i64 l, .int .i64 d]).later hb
  have k0 := hbx.cell 0
  have k1 := hbx.cell 1
  have k2 := hbx.cell 2
  have k3 := hbx.cell 3
  have k4 := hbx.cell 4
  have HB := Lib.hid (below_step (below_alloc (Below.refl _ _) _) hb)
  clear hb hbx
  simp at k0 k1 k2 k3 k4
  go_wp2_with fail
  clear k0 k1 k2 k3 k4
  have HW : Hid (Warm ((w1.alloc (.cells #[.int .i64 a, .int .i64 m, .int .i64 g, .int .i64 l, .int .i64 d, .int .i64 0] 38)).alloc (.cells #[.pointer (some ⟨w1.heap.size, 0, none⟩)] 36)) w1.heap.size a m g l d 0) := Lib.hid (Blk.alloc (Blk.new ..) _)
  refine (none_any w1.heap.size a m g l d 0 _ HW.out).mono ?_
  rintro e w2 ⟨rfl, rfl⟩
  rw [HZ.out]
  go_wp2_with fail
  generalize hw3 : (w1.alloc (.cells #[.int .i64 a, .int .i64 m, .int .i64 g, .int .i64 l, .int .i64 d, .int .i64 0] 38)).alloc (.cells #[.pointer (some ⟨w1.heap.size, 0, none⟩)] 36) = w3 at HW
  have HB3 : Hid (Below w.heap.size w w3) := Lib.hid (hw3 ▸ below_alloc (below_alloc HB.out _) _)
  have hptr : w3.cell? ⟨w1.heap.size + 1, 0, none⟩ = some (.pointer (some ⟨w1.heap.size, 0, none⟩)) := by
    rw [← hw3]
    have := (Blk.new (w1.alloc (.cells #[.int .i64 a, .int .i64 m, .int .i64 g, .int .i64 l, .int .i64 d, .int .i64 0] 38)) 36 #[.pointer (some ⟨w1.heap.size, 0, none⟩)]).cell 0
    simp at this ⊢
  have HPT := Lib.hid hptr
  clear hw3 HB hptr
  refine wp_region_one 15 14 5 (fun w'' => Below w3.heap.size w3 w'') (.cells #[.int .i64 0] 3) (fun g => .pointer (some ⟨g, 0, none⟩)) w3.heap.size mixed (by kernel_rfl) (by kernel_rfl) (below_closed w3) (below_base w3) (Below.refl _ _).drew ?_
  simp only [List.take_succ_cons, List.take_zero, List.drop_succ_cons, List.drop_zero, List.eraseIdx_cons_succ, List.eraseIdx_cons_zero]
  intro KR hR
  have HR := Lib.hid hR
  clear hR
  have HCC := Lib.hid (show ∀ w'', Below w3.heap.size w3 w'' → w''.cell? ⟨w1.heap.size, 0, none⟩ = some (.int .i64 a) ∧ w''.cell? ⟨w1.heap.size, 1, none⟩ = some (.int .i64 m) ∧ w''.cell? ⟨w1.heap.size + 1, 0, none⟩ = some (.pointer (some ⟨w1.heap.size, 0, none⟩)) from
    fun w'' hw => ⟨(Warm.cells (HW.out.later hw)).1, (Warm.cells (HW.out.later hw)).2.1, cell_kept hw HPT.out⟩)
  repeat (first
    | ((with_reducible refine wpB_move ?_ ?_); exact rfl; simp only [Act.put, List.setIfInBounds_toArray, List.set_cons_zero, List.set_cons_succ])
    | (apply wpB_call 15 #[.pointer (some ⟨w1.heap.size, 0, none⟩)] rfl (v := .int .i64 ll)
       · (intro w'; go_simp)
       · exact fun w' hw' => by rw [← HLL.out]; exact loss_any w1.heap.size a m g l d 0 w' (HW.out.later hw')
       simp only [Act.put, List.setIfInBounds_toArray, List.set_cons_zero, List.set_cons_succ])
    | (apply wpB_val rfl
       · (intro w' hw'; obtain ⟨c0, c1, c2⟩ := HCC.out w' hw'; go_simp; with_reducible rfl)
       simp only [Act.put, List.setIfInBounds_toArray, List.set_cons_zero, List.set_cons_succ]))
  refine wpB_nil (HR.out _ ?_ (fun g5 w4 hg5 hw4 hbk => ?_))
  · intro o ho w' hw'
    cases ho
    go_simp
  clear HR HCC
  simp only [Act.put, List.setIfInBounds_toArray, List.set_cons_zero, List.set_cons_succ]
  have hblk : Blk w4 g5 3 #[.int .i64 0] := hbk
  have k5 := hblk.cell 0
  have f5 := hblk.frozen 0
  simp at k5
  have hp3 : w1.heap.size < w3.heap.size := Blk.lt HW.out
  have hp4 : w1.heap.size + 1 < w3.heap.size := cell_lt HPT.out
  have HRM : Hid (Room (w4.setCell ⟨g5, 0, none⟩ (.int .i64 R)) (w1.heap.size + 1) g5 w1.heap.size a m g l d 0 R) :=
    Lib.hid ⟨Blk.other (HW.out.later hw4) (by simp; omega) _, (World.cell?_setCell_other _ _ _ _ (by intro e; injection e; omega)).trans (cell_kept hw4 HPT.out), (hblk.set 0 _).cell 0⟩
  have HB4 : Hid (Below w.heap.size w (w4.setCell ⟨g5, 0, none⟩ (.int .i64 R))) := Lib.hid ((below_step HB3.out hw4).setCell (Nat.le_trans HB3.out.size hg5) _)
  clear hw4 HPT HW HB3 hbk hblk hg5 hp3 hp4
  go_wp2_with fail
  refine (greatest_any (w1.heap.size + 1) g5 w1.heap.size a m g l d 0 R p _ HRM.out b5 b6 HP.out).mono ?_
  rintro e w5 ⟨rfl, hb⟩
  replace HB4 := Lib.hid (below_step HB4.out hb)
  clear hb
  go_wp2
  go_ret2
  exact ⟨rfl, HB4.out⟩

end Go.Proofs.Ytmiedlgcdkggdaa
