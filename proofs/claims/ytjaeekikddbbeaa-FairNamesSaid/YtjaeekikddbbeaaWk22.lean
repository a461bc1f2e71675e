/- Chapter 22: head. -/
import Derived.Test.YtjaeekikddbbeaaWj22
namespace Go.Proofs.Ytjaeekikddbbeaa
open Go.RowKit
attribute [local go_sem] Oper.semAt_some

theorem lit_ints (w : World) (t : TypeId) (l : List Int) : Ints (w.alloc (.cells (l.map (Value.int .i64 ·)).toArray t)) (some ⟨w.heap.size, 0, none⟩) l := fun i hi => ⟨w.heap.size, 0, rfl, by
  have := (Blk.new w t (l.map (Value.int .i64 ·)).toArray).cell i
  rw [Nat.zero_add]
  exact this.trans (by simp [hi])⟩
theorem Ints.take {w : World} {o : Option Addr} {l : List Int} (h : Ints w o l) (k : Nat) : Ints w o (l.take k) := fun i hi => by
  rw [List.length_take] at hi
  obtain ⟨b, off, h1, h2⟩ := h i (by omega)
  exact ⟨b, off, h1, h2.trans (by rw [List.getD_eq_getElem?_getD, List.getD_eq_getElem?_getD, List.getElem?_take_of_lt (by omega)])⟩
def rows0 : List Rw := [⟨5, [0, 1]⟩, ⟨7, [1, 2]⟩]
theorem lit_rws (w : World) (t : TypeId) {oa ob : Option Addr} (ha : Ints w oa [0, 1]) (hb : Ints w ob [1, 2]) : Rws (w.alloc (.cells #[.int .i64 5, .slice oa 2 2, .int .i64 7, .slice ob 2 2] t)) (some ⟨w.heap.size, 0, none⟩) rows0 := fun i hi => by
  have hB := Blk.new w t #[.int .i64 5, .slice oa 2 2, .int .i64 7, .slice ob 2 2]
  have hbel := below_alloc (Below.refl w.heap.size w) (.cells #[.int .i64 5, .slice oa 2 2, .int .i64 7, .slice ob 2 2] t)
  have h2 : i = 0 ∨ i = 1 := by simp [rows0] at hi; omega
  rcases h2 with rfl | rfl
  · exact ⟨w.heap.size, 0, rfl, oa, 2, by decide, by decide, ha.later hbel, hB.cell 0, hB.cell 1⟩
  · exact ⟨w.heap.size, 0, rfl, ob, 2, by decide, by decide, hb.later hbel, hB.cell 2, hB.cell 3⟩
theorem sh1 : shareF rows0 [10, 10, 10] [0, 1, 2] = [3, 2, 5] := by kernel_rfl
theorem sh2 : shareF rows0 [10, 10, 10] [1, 0, 2] = [2, 3, 4] := by kernel_rfl
theorem vl1 : (validLim rows0 [10, 10, 10] && isOrd [0, 1, 2] 3) = true := by kernel_rfl
theorem vl2 : (validLim rows0 [10, 10, 10] && isOrd [1, 0, 2] 3) = true := by kernel_rfl
theorem vl3 : (validLim rows0 [10, 10, 10] && isOrd [0, 1, 1] 3) = false := by kernel_rfl
theorem vl4 : (validLim rows0 [10, 10] && isOrd [0, 1] 2) = false := by kernel_rfl
theorem ft1 : fitsB rows0 [10, 10, 10] [3, 2, 5] = true := by decide +kernel
theorem ft2 : fitsB rows0 [10, 10, 10] [3, 3, 4] = false := by decide +kernel
theorem bt1 : bet [3, 2, 5] [2, 2, 5] [0, 1, 2] = 1 := by decide +kernel
theorem bt2 : bet [2, 2, 5] [3, 2, 5] [0, 1, 2] = -1 := by decide +kernel
theorem bt3 : bet [1, 2, 0] [0, 9, 9] [0, 1, 2] = 1 := by decide +kernel
theorem bt4 : bet [3, 2, 5] [3, 2, 5] [0, 1, 2] = 0 := by decide +kernel

def ShareAt (n : Nat) (X : List Int) (w : World) (e : Ending) (w' : World) : Prop := Below w.heap.size w w' ∧ ∃ g, w.heap.size ≤ g ∧ e = .returned (.tuple #[.slice (some ⟨g, 0, none⟩) n n, .int .i64 0]) ∧ Ints w' (some ⟨g, 0, none⟩) X
theorem share_ok (o o2 o3 : Option Addr) (cap cap2 cap3 n0 n n3 : Nat) (rows : List Rw) (most order : List Int) (w : World) (hr : Rws w o rows) (hm : Ints w o2 most) (ho : Ints w o3 order) (hl : rows.length ≤ 9000000000000000000) (hl2 : most.length ≤ 9000000000000000000) (hl3 : order.length ≤ 1000000) (h0 : rows.length = n0) (h1 : most.length = n) (h3 : order.length = n3) {X : List Int} (hv : (validLim rows most && isOrd order (most.length : Nat)) = true) (hX : shareF rows most order = X) :
    Calls Try.prog 11 #[.slice o n0 cap, .slice o2 n cap2, .slice o3 n3 cap3] w (ShareAt n X w) := by
  subst h0 h1 h3 hX
  refine (Share_any o o2 o3 cap cap2 cap3 rows most order w hr hm ho hl hl2 hl3).mono ?_
  rintro e w' ⟨hb, ⟨_, g, hg, he, hi⟩ | ⟨hf, _⟩⟩
  · exact ⟨hb, g, hg, he, hi⟩
  · rw [hv] at hf; cases hf
theorem share_no (o o2 o3 : Option Addr) (cap cap2 cap3 n0 n n3 : Nat) (rows : List Rw) (most order : List Int) (w : World) (hr : Rws w o rows) (hm : Ints w o2 most) (ho : Ints w o3 order) (hl : rows.length ≤ 9000000000000000000) (hl2 : most.length ≤ 9000000000000000000) (hl3 : order.length ≤ 1000000) (h0 : rows.length = n0) (h1 : most.length = n) (h3 : order.length = n3) (hv : (validLim rows most && isOrd order (most.length : Nat)) = false) :
    Calls Try.prog 11 #[.slice o n0 cap, .slice o2 n cap2, .slice o3 n3 cap3] w (Ret (.tuple #[.slice none 0 0, .int .i64 1]) w) := by
  subst h0 h1 h3
  refine (Share_any o o2 o3 cap cap2 cap3 rows most order w hr hm ho hl hl2 hl3).mono ?_
  rintro e w' ⟨hb, ⟨hf, _⟩ | ⟨_, he⟩⟩
  · rw [hv] at hf; cases hf
  · exact ⟨he, hb⟩
theorem ints_at (oa ob : Option Addr) (ca cb na nb : Nat) (l : List Int) (w : World) (ha : Ints w oa l) (hb : Ints w ob l) (hl : l.length ≤ 9223372036854775807) (h1 : l.length = na) (h2 : l.length = nb) : Calls Try.prog 15 #[.slice oa na ca, .slice ob nb cb] w (Ret (.bool true) w) := by
  subst h1 h2
  have := refInts_any oa ob ca cb l l w ha hb hl
  rwa [decide_eq_true rfl] at this
theorem fits_at (o o2 o3 : Option Addr) (cap cap2 cap3 n0 n n3 : Nat) (rows : List Rw) (most x : List Int) (w : World) (hr : Rws w o rows) (hm : Ints w o2 most) (hx : Ints w o3 x) (hl : rows.length ≤ 9000000000000000000) (hl2 : most.length ≤ 9000000000000000000) (h0 : rows.length = n0) (h1 : most.length = n) (h3 : x.length = n3) {V : Bool} (hv : fitsB rows most x = V) : Calls Try.prog 13 #[.slice o n0 cap, .slice o2 n cap2, .slice o3 n3 cap3] w (Ret (.bool V) w) := by
  subst h0 h1 h3 hv
  exact Fits_any o o2 o3 cap cap2 cap3 rows most x w hr hm hx hl hl2
theorem better_at (o o2 o3 : Option Addr) (cap cap2 cap3 n0 n n3 : Nat) (x y order : List Int) (w : World) (hx : Ints w o x) (hy : Ints w o2 y) (hr : Ints w o3 order) (hl : order.length ≤ 1000000) (h0 : x.length = n0) (h1 : y.length = n) (h3 : order.length = n3) {V : Int} (hv : bet x y order = V) : Calls Try.prog 14 #[.slice o n0 cap, .slice o2 n cap2, .slice o3 n3 cap3] w (Ret (.int .i64 V) w) := by
  subst h0 h1 h3 hv
  exact Better_any o o2 o3 cap cap2 cap3 x y order w hx hy hr hl

set_option maxRecDepth 100000 in
set_option maxHeartbeats 16000000 in
theorem head_any (w : World) : Calls Try.prog 9 #[] w (Ret (.bool true) w) := by
  go_enter Try.func9, Try.ntmps9
  have HA1 := Lib.hid (lit_ints w 3 [0, 1])
  obtain ⟨w1, hw1⟩ : ∃ w1 : World, w1 = w.alloc (.cells #[.int .i64 0, .int .i64 1] 3) := ⟨_, rfl⟩
  have HS1 := Lib.hid (show w1.heap.size = w.heap.size + 1 by rw [hw1]; exact World.size_alloc ..)
  have HW1 := Lib.hid (show Below w.heap.size w w1 by rw [hw1]; exact below_alloc (Below.refl _ _) _)
  have HI1 := Lib.hid (show Ints w1 (some ⟨w.heap.size, 0, none⟩) [0, 1] by rw [hw1]; exact HA1.out)
  obtain ⟨w2, hw2⟩ : ∃ w2 : World, w2 = w1.alloc (.cells #[.int .i64 1, .int .i64 2] 3) := ⟨_, rfl⟩
  have HS2 := Lib.hid (show w2.heap.size = w.heap.size + 1 + 1 by rw [hw2, World.size_alloc, HS1.out])
  have HW2 := Lib.hid (show Below w1.heap.size w1 w2 by rw [hw2]; exact below_alloc (Below.refl _ _) _)
  have HI2 := Lib.hid (show Ints w2 (some ⟨w.heap.size + 1, 0, none⟩) [1, 2] by rw [hw2, ← HS1.out]; exact lit_ints w1 3 [1, 2])
  obtain ⟨w3, hw3⟩ : ∃ w3 : World, w3 = w2.alloc (.cells #[.int .i64 5, .slice (some ⟨w.heap.size, 0, none⟩) 2 2, .int .i64 7, .slice (some ⟨w.heap.size + 1, 0, none⟩) 2 2] 34) := ⟨_, rfl⟩
  have HS3 := Lib.hid (show w3.heap.size = w.heap.size + 1 + 1 + 1 by rw [hw3, World.size_alloc, HS2.out])
  have HW3 := Lib.hid (show Below w2.heap.size w2 w3 by rw [hw3]; exact below_alloc (Below.refl _ _) _)
  have HRW3 := Lib.hid (show Rws w3 (some ⟨w.heap.size + 1 + 1, 0, none⟩) rows0 by rw [hw3, ← HS2.out]; exact lit_rws w2 _ (HI1.out.later HW2.out) HI2.out)
  obtain ⟨w4, hw4⟩ : ∃ w4 : World, w4 = w3.alloc (.cells #[.int .i64 10, .int .i64 10, .int .i64 10] 3) := ⟨_, rfl⟩
  have HS4 := Lib.hid (show w4.heap.size = w.heap.size + 1 + 1 + 1 + 1 by rw [hw4, World.size_alloc, HS3.out])
  have HW4 := Lib.hid (show Below w3.heap.size w3 w4 by rw [hw4]; exact below_alloc (Below.refl _ _) _)
  have HI4 := Lib.hid (show Ints w4 (some ⟨w.heap.size + 1 + 1 + 1, 0, none⟩) [10, 10, 10] by rw [hw4, ← HS3.out]; exact lit_ints w3 3 [10, 10, 10])
  obtain ⟨w5, hw5⟩ : ∃ w5 : World, w5 = w4.alloc (.cells #[.int .i64 0, .int .i64 1, .int .i64 2] 3) := ⟨_, rfl⟩
  have HW5 := Lib.hid (show Below w4.heap.size w4 w5 by rw [hw5]; exact below_alloc (Below.refl _ _) _)
  have HO := Lib.hid (show Ints w5 (some ⟨w.heap.size + 1 + 1 + 1 + 1, 0, none⟩) [0, 1, 2] by rw [hw5, ← HS4.out]; exact lit_ints w4 3 [0, 1, 2])
  have HM := Lib.hid (HI4.out.later HW5.out)
  have HRW := Lib.hid ((HRW3.out.later HW4.out).later HW5.out)
  have HW := Lib.hid (below_step (below_step (below_step (below_step HW1.out HW2.out) HW3.out) HW4.out) HW5.out)
  go_wp2_with fail
  rw [← hw1, ← hw2, ← hw3, ← hw4, ← hw5]
  obtain ⟨b2, hb2⟩ : ∃ b2, w.heap.size + 1 + 1 = b2 := ⟨_, rfl⟩
  rw [hb2] at HRW HM HO ⊢
  obtain ⟨b3, hb3⟩ : ∃ b3, b2 + 1 = b3 := ⟨_, rfl⟩
  rw [hb3] at HM HO ⊢
  obtain ⟨b4, hb4⟩ : ∃ b4, b3 + 1 = b4 := ⟨_, rfl⟩
  rw [hb4] at HO ⊢
  clear hb2 hb3 hb4 hw1 hw2 hw3 hw4 hw5 HA1 HS1 HS2 HS3 HS4 HW1 HW2 HW3 HW4 HW5 HI1 HI2 HRW3 HI4
  refine (share_ok (some ⟨b2, 0, none⟩) (some ⟨b3, 0, none⟩) (some ⟨b4, 0, none⟩) 2 3 3 2 3 3 rows0 [10, 10, 10] [0, 1, 2] _ HRW.out HM.out HO.out (by decide) (by decide) (by decide) rfl rfl rfl vl1 sh1).mono ?_
  rintro e x6 ⟨hb, gx, _, rfl, hx⟩
  replace HW := Lib.hid (below_step HW.out hb)
  replace HRW := Lib.hid (HRW.out.later hb)
  replace HM := Lib.hid (HM.out.later hb)
  replace HO := Lib.hid (HO.out.later hb)
  clear hb
  have HX := Lib.hid hx
  clear hx
  have HALL := Lib.hid (below_alloc (Below.refl x6.heap.size x6) (.cells #[.int .i64 1, .int .i64 0, .int .i64 2] 3))
  have HL1 := Lib.hid (show Ints (x6.alloc (.cells #[.int .i64 1, .int .i64 0, .int .i64 2] 3)) (some ⟨x6.heap.size, 0, none⟩) [1, 0, 2] from lit_ints x6 3 [1, 0, 2])
  replace HW := Lib.hid (below_step HW.out HALL.out)
  replace HRW := Lib.hid (HRW.out.later HALL.out)
  replace HM := Lib.hid (HM.out.later HALL.out)
  replace HO := Lib.hid (HO.out.later HALL.out)
  replace HX := Lib.hid (HX.out.later HALL.out)
  clear HALL
  go_wp2_with fail
  refine (share_ok (some ⟨b2, 0, none⟩) (some ⟨b3, 0, none⟩) (some ⟨x6.heap.size, 0, none⟩) 2 3 3 2 3 3 rows0 [10, 10, 10] [1, 0, 2] _ HRW.out HM.out HL1.out (by decide) (by decide) (by decide) rfl rfl rfl vl2 sh2).mono ?_
  rintro e x7 ⟨hb, gy, _, rfl, hx⟩
  replace HW := Lib.hid (below_step HW.out hb)
  replace HRW := Lib.hid (HRW.out.later hb)
  replace HM := Lib.hid (HM.out.later hb)
  replace HO := Lib.hid (HO.out.later hb)
  replace HX := Lib.hid (HX.out.later hb)
  replace HL1 := Lib.hid (HL1.out.later hb)
  clear hb
  have HY := Lib.hid hx
  clear hx
  clear HL1
  have HALL := Lib.hid (below_alloc (Below.refl x7.heap.size x7) (.cells #[.int .i64 0, .int .i64 1, .int .i64 1] 3))
  have HL2 := Lib.hid (show Ints (x7.alloc (.cells #[.int .i64 0, .int .i64 1, .int .i64 1] 3)) (some ⟨x7.heap.size, 0, none⟩) [0, 1, 1] from lit_ints x7 3 [0, 1, 1])
  replace HW := Lib.hid (below_step HW.out HALL.out)
  replace HRW := Lib.hid (HRW.out.later HALL.out)
  replace HM := Lib.hid (HM.out.later HALL.out)
  replace HO := Lib.hid (HO.out.later HALL.out)
  replace HX := Lib.hid (HX.out.later HALL.out)
  replace HY := Lib.hid (HY.out.later HALL.out)
  clear HALL
  go_wp2_with fail
  refine (share_no (some ⟨b2, 0, none⟩) (some ⟨b3, 0, none⟩) (some ⟨x7.heap.size, 0, none⟩) 2 3 3 2 3 3 rows0 [10, 10, 10] [0, 1, 1] _ HRW.out HM.out HL2.out (by decide) (by decide) (by decide) rfl rfl rfl vl3).mono ?_
  rintro e x8 ⟨rfl, hb⟩
  replace HW := Lib.hid (below_step HW.out hb)
  replace HRW := Lib.hid (HRW.out.later hb)
  replace HM := Lib.hid (HM.out.later hb)
  replace HO := Lib.hid (HO.out.later hb)
  replace HX := Lib.hid (HX.out.later hb)
  replace HY := Lib.hid (HY.out.later hb)
  replace HL2 := Lib.hid (HL2.out.later hb)
  clear hb
  clear HL2
  have HM2 := Lib.hid (show Ints x8 (some ⟨b3, 0, none⟩) [10, 10] from HM.out.take 2)
  have HO2 := Lib.hid (show Ints x8 (some ⟨b4, 0, none⟩) [0, 1] from HO.out.take 2)
  go_wp2_with fail
  refine wp_region_B 11 (fun w'' => Below x8.heap.size x8 w'') mixed (by kernel_rfl) (below_closed x8) (Below.refl _ _).drew ?_
  simp only [List.take_succ_cons, List.take_zero, List.drop_succ_cons, List.drop_zero]
  intro KR hR
  have HR := Lib.hid hR
  clear hR
  apply wpB_val rfl
  · (intro w' hw'; go_simp; with_reducible rfl)
  simp only [Act.put, List.setIfInBounds_toArray, List.set_cons_zero, List.set_cons_succ]
  apply wpB_val rfl
  · (intro w' hw'; go_simp; with_reducible rfl)
  simp only [Act.put, List.setIfInBounds_toArray, List.set_cons_zero, List.set_cons_succ]
  apply wpB_val rfl
  · (intro w' hw'; go_simp; with_reducible rfl)
  simp only [Act.put, List.setIfInBounds_toArray, List.set_cons_zero, List.set_cons_succ]
  apply wpB_val rfl
  · (intro w' hw'; go_simp; with_reducible rfl)
  simp only [Act.put, List.setIfInBounds_toArray, List.set_cons_zero, List.set_cons_succ]
  apply wpB_val rfl
  · (intro w' hw'; go_simp; with_reducible rfl)
  simp only [Act.put, List.setIfInBounds_toArray, List.set_cons_zero, List.set_cons_succ]
  apply wpB_call 11 #[.slice (some ⟨b2, 0, none⟩) 2 2, .slice (some ⟨b3, 0, none⟩) 2 3, .slice (some ⟨b4, 0, none⟩) 2 3] rfl (v := .tuple #[.slice none 0 0, .int .i64 1])
  · (intro w'; go_simp)
  · exact fun w' hw' => share_no (some ⟨b2, 0, none⟩) (some ⟨b3, 0, none⟩) (some ⟨b4, 0, none⟩) 2 3 3 2 2 2 rows0 [10, 10] [0, 1] w' (HRW.out.later hw') (HM2.out.later hw') (HO2.out.later hw') (by decide) (by decide) (by decide) rfl rfl rfl vl4
  simp only [Act.put, List.setIfInBounds_toArray, List.set_cons_zero, List.set_cons_succ]
  apply wpB_val rfl
  · (intro w' hw'; go_simp; with_reducible rfl)
  simp only [Act.put, List.setIfInBounds_toArray, List.set_cons_zero, List.set_cons_succ]
  apply wpB_val rfl
  · (intro w' hw'; go_simp; with_reducible rfl)
  simp only [Act.put, List.setIfInBounds_toArray, List.set_cons_zero, List.set_cons_succ]
  apply wpB_val rfl
  · (intro w' hw'; go_simp; with_reducible rfl)
  simp only [Act.put, List.setIfInBounds_toArray, List.set_cons_zero, List.set_cons_succ]
  apply wpB_val rfl
  · (intro w' hw'; go_simp; with_reducible rfl)
  simp only [Act.put, List.setIfInBounds_toArray, List.set_cons_zero, List.set_cons_succ]
  apply wpB_val rfl
  · (intro w' hw'; go_simp; with_reducible rfl)
  simp only [Act.put, List.setIfInBounds_toArray, List.set_cons_zero, List.set_cons_succ]
  refine wpB_nil (HR.out _ (fun w2 hw2 => ?_))
  clear HR
  replace HW := Lib.hid (below_step HW.out hw2)
  clear HM2 HO2
  replace HRW := Lib.hid (HRW.out.later hw2)
  replace HM := Lib.hid (HM.out.later hw2)
  replace HO := Lib.hid (HO.out.later hw2)
  replace HX := Lib.hid (HX.out.later hw2)
  replace HY := Lib.hid (HY.out.later hw2)
  clear hw2
  have HALL := Lib.hid (below_alloc (Below.refl w2.heap.size w2) (.cells #[.int .i64 3, .int .i64 2, .int .i64 5] 3))
  have HL := Lib.hid (show Ints (w2.alloc (.cells #[.int .i64 3, .int .i64 2, .int .i64 5] 3)) (some ⟨w2.heap.size, 0, none⟩) [3, 2, 5] from lit_ints w2 3 [3, 2, 5])
  replace HW := Lib.hid (below_step HW.out HALL.out)
  replace HRW := Lib.hid (HRW.out.later HALL.out)
  replace HM := Lib.hid (HM.out.later HALL.out)
  replace HO := Lib.hid (HO.out.later HALL.out)
  replace HX := Lib.hid (HX.out.later HALL.out)
  replace HY := Lib.hid (HY.out.later HALL.out)
  clear HALL
  go_wp2_with fail
  refine (ints_at (some ⟨gx, 0, none⟩) (some ⟨w2.heap.size, 0, none⟩) 3 3 3 3 [3, 2, 5] _ HX.out HL.out (by decide) rfl rfl).mono ?_
  rintro e x9 ⟨rfl, hb⟩
  replace HW := Lib.hid (below_step HW.out hb)
  replace HRW := Lib.hid (HRW.out.later hb)
  replace HM := Lib.hid (HM.out.later hb)
  replace HO := Lib.hid (HO.out.later hb)
  replace HX := Lib.hid (HX.out.later hb)
  replace HY := Lib.hid (HY.out.later hb)
  replace HL := Lib.hid (HL.out.later hb)
  clear hb
  clear HL
  have HALL := Lib.hid (below_alloc (Below.refl x9.heap.size x9) (.cells #[.int .i64 2, .int .i64 3, .int .i64 4] 3))
  have HL := Lib.hid (show Ints (x9.alloc (.cells #[.int .i64 2, .int .i64 3, .int .i64 4] 3)) (some ⟨x9.heap.size, 0, none⟩) [2, 3, 4] from lit_ints x9 3 [2, 3, 4])
  replace HW := Lib.hid (below_step HW.out HALL.out)
  replace HRW := Lib.hid (HRW.out.later HALL.out)
  replace HM := Lib.hid (HM.out.later HALL.out)
  replace HO := Lib.hid (HO.out.later HALL.out)
  replace HX := Lib.hid (HX.out.later HALL.out)
  replace HY := Lib.hid (HY.out.later HALL.out)
  clear HALL
  go_wp2_with fail
  refine (ints_at (some ⟨gy, 0, none⟩) (some ⟨x9.heap.size, 0, none⟩) 3 3 3 3 [2, 3, 4] _ HY.out HL.out (by decide) rfl rfl).mono ?_
  rintro e x10 ⟨rfl, hb⟩
  replace HW := Lib.hid (below_step HW.out hb)
  replace HRW := Lib.hid (HRW.out.later hb)
  replace HM := Lib.hid (HM.out.later hb)
  replace HO := Lib.hid (HO.out.later hb)
  replace HX := Lib.hid (HX.out.later hb)
  replace HY := Lib.hid (HY.out.later hb)
  replace HL := Lib.hid (HL.out.later hb)
  clear hb
  clear HL HY
  go_wp2_with fail
  refine (fits_at (some ⟨b2, 0, none⟩) (some ⟨b3, 0, none⟩) (some ⟨gx, 0, none⟩) 2 3 3 2 3 3 rows0 [10, 10, 10] [3, 2, 5] _ HRW.out HM.out HX.out (by decide) (by decide) rfl rfl rfl ft1).mono ?_
  rintro e x11 ⟨rfl, hb⟩
  replace HW := Lib.hid (below_step HW.out hb)
  replace HRW := Lib.hid (HRW.out.later hb)
  replace HM := Lib.hid (HM.out.later hb)
  replace HO := Lib.hid (HO.out.later hb)
  replace HX := Lib.hid (HX.out.later hb)
  clear hb
  have HALL := Lib.hid (below_alloc (Below.refl x11.heap.size x11) (.cells #[.int .i64 3, .int .i64 3, .int .i64 4] 3))
  have HL := Lib.hid (show Ints (x11.alloc (.cells #[.int .i64 3, .int .i64 3, .int .i64 4] 3)) (some ⟨x11.heap.size, 0, none⟩) [3, 3, 4] from lit_ints x11 3 [3, 3, 4])
  replace HW := Lib.hid (below_step HW.out HALL.out)
  replace HRW := Lib.hid (HRW.out.later HALL.out)
  replace HM := Lib.hid (HM.out.later HALL.out)
  replace HO := Lib.hid (HO.out.later HALL.out)
  replace HX := Lib.hid (HX.out.later HALL.out)
  clear HALL
  go_wp2_with fail
  refine (fits_at (some ⟨b2, 0, none⟩) (some ⟨b3, 0, none⟩) (some ⟨x11.heap.size, 0, none⟩) 2 3 3 2 3 3 rows0 [10, 10, 10] [3, 3, 4] _ HRW.out HM.out HL.out (by decide) (by decide) rfl rfl rfl ft2).mono ?_
  rintro e x12 ⟨rfl, hb⟩
  replace HW := Lib.hid (below_step HW.out hb)
  replace HRW := Lib.hid (HRW.out.later hb)
  replace HM := Lib.hid (HM.out.later hb)
  replace HO := Lib.hid (HO.out.later hb)
  replace HX := Lib.hid (HX.out.later hb)
  replace HL := Lib.hid (HL.out.later hb)
  clear hb
  clear HL HRW HM
  have HALL := Lib.hid (below_alloc (Below.refl x12.heap.size x12) (.cells #[.int .i64 2, .int .i64 2, .int .i64 5] 3))
  have HL := Lib.hid (show Ints (x12.alloc (.cells #[.int .i64 2, .int .i64 2, .int .i64 5] 3)) (some ⟨x12.heap.size, 0, none⟩) [2, 2, 5] from lit_ints x12 3 [2, 2, 5])
  replace HW := Lib.hid (below_step HW.out HALL.out)
  replace HO := Lib.hid (HO.out.later HALL.out)
  replace HX := Lib.hid (HX.out.later HALL.out)
  clear HALL
  go_wp2_with fail
  refine (better_at (some ⟨gx, 0, none⟩) (some ⟨x12.heap.size, 0, none⟩) (some ⟨b4, 0, none⟩) 3 3 3 3 3 3 [3, 2, 5] [2, 2, 5] [0, 1, 2] _ HX.out HL.out HO.out (by decide) rfl rfl rfl bt1).mono ?_
  rintro e x13 ⟨rfl, hb⟩
  replace HW := Lib.hid (below_step HW.out hb)
  replace HO := Lib.hid (HO.out.later hb)
  replace HX := Lib.hid (HX.out.later hb)
  replace HL := Lib.hid (HL.out.later hb)
  clear hb
  clear HL
  have HALL := Lib.hid (below_alloc (Below.refl x13.heap.size x13) (.cells #[.int .i64 2, .int .i64 2, .int .i64 5] 3))
  have HL := Lib.hid (show Ints (x13.alloc (.cells #[.int .i64 2, .int .i64 2, .int .i64 5] 3)) (some ⟨x13.heap.size, 0, none⟩) [2, 2, 5] from lit_ints x13 3 [2, 2, 5])
  replace HW := Lib.hid (below_step HW.out HALL.out)
  replace HO := Lib.hid (HO.out.later HALL.out)
  replace HX := Lib.hid (HX.out.later HALL.out)
  clear HALL
  go_wp2_with fail
  refine (better_at (some ⟨x13.heap.size, 0, none⟩) (some ⟨gx, 0, none⟩) (some ⟨b4, 0, none⟩) 3 3 3 3 3 3 [2, 2, 5] [3, 2, 5] [0, 1, 2] _ HL.out HX.out HO.out (by decide) rfl rfl rfl bt2).mono ?_
  rintro e x14 ⟨rfl, hb⟩
  replace HW := Lib.hid (below_step HW.out hb)
  replace HO := Lib.hid (HO.out.later hb)
  replace HX := Lib.hid (HX.out.later hb)
  replace HL := Lib.hid (HL.out.later hb)
  clear hb
  clear HL
  have HZ1 := Lib.hid (World.size_alloc x14 (.cells #[.int .i64 1, .int .i64 2, .int .i64 0] 3))
  have HALL := Lib.hid (below_alloc (Below.refl x14.heap.size x14) (.cells #[.int .i64 1, .int .i64 2, .int .i64 0] 3))
  have HL := Lib.hid (show Ints (x14.alloc (.cells #[.int .i64 1, .int .i64 2, .int .i64 0] 3)) (some ⟨x14.heap.size, 0, none⟩) [1, 2, 0] from lit_ints x14 3 [1, 2, 0])
  replace HW := Lib.hid (below_step HW.out HALL.out)
  replace HO := Lib.hid (HO.out.later HALL.out)
  replace HX := Lib.hid (HX.out.later HALL.out)
  clear HALL
  obtain ⟨y1, hy1⟩ : ∃ y1 : World, y1 = x14.alloc (.cells #[.int .i64 1, .int .i64 2, .int .i64 0] 3) := ⟨_, rfl⟩
  rw [← hy1] at HW HX HO HL HZ1
  have HALL := Lib.hid (below_alloc (Below.refl y1.heap.size y1) (.cells #[.int .i64 0, .int .i64 9, .int .i64 9] 3))
  have HK := Lib.hid (show Ints (y1.alloc (.cells #[.int .i64 0, .int .i64 9, .int .i64 9] 3)) (some ⟨y1.heap.size, 0, none⟩) [0, 9, 9] from lit_ints y1 3 [0, 9, 9])
  replace HW := Lib.hid (below_step HW.out HALL.out)
  replace HO := Lib.hid (HO.out.later HALL.out)
  replace HX := Lib.hid (HX.out.later HALL.out)
  replace HL := Lib.hid (HL.out.later HALL.out)
  clear HALL
  rw [HZ1.out] at HK
  go_wp2_with fail
  rw [← hy1]
  refine (better_at (some ⟨x14.heap.size, 0, none⟩) (some ⟨x14.heap.size + 1, 0, none⟩) (some ⟨b4, 0, none⟩) 3 3 3 3 3 3 [1, 2, 0] [0, 9, 9] [0, 1, 2] _ HL.out HK.out HO.out (by decide) rfl rfl rfl bt3).mono ?_
  rintro e x15 ⟨rfl, hb⟩
  replace HW := Lib.hid (below_step HW.out hb)
  replace HO := Lib.hid (HO.out.later hb)
  replace HX := Lib.hid (HX.out.later hb)
  replace HL := Lib.hid (HL.out.later hb)
  replace HK := Lib.hid (HK.out.later hb)
  clear hb
  clear HL HK
  go_wp2_with fail
  refine (better_at (some ⟨gx, 0, none⟩) (some ⟨gx, 0, none⟩) (some ⟨b4, 0, none⟩) 3 3 3 3 3 3 [3, 2, 5] [3, 2, 5] [0, 1, 2] _ HX.out HX.out HO.out (by decide) rfl rfl rfl bt4).mono ?_
  rintro e x16 ⟨rfl, hb⟩
  replace HW := Lib.hid (below_step HW.out hb)
  replace HO := Lib.hid (HO.out.later hb)
  replace HX := Lib.hid (HX.out.later hb)
  clear hb
  go_wp2
  go_ret
  exact ⟨rfl, HW.out⟩
end Go.Proofs.Ytjaeekikddbbeaa
