/- Chapter 37: two pairs compared. -/
import Derived.Test.YtmcodendnpjlaaaDoorWd37
import Derived.Test.YtmcodendnpjlaaaDoorKitB
namespace Go.Proofs.YtmcodendnpjlaaaDoor
open Go.RowKit
attribute [local go_sem] Oper.semAt_some

@[reducible] def prV (p : Int × Int) : Value := .agg #[.int .i64 p.1, .int .i64 p.2]
def cmpP (p q : Int × Int) : Int := if cmpI p.1 q.1 = 0 then cmpI p.2 q.2 else cmpI p.1 q.1
set_option maxRecDepth 100000 in
set_option maxHeartbeats 8000000 in
theorem cmp1_any (p q : Int × Int) (w : World) : Calls Tryd.prog 39 #[prV p, prV q] w (Ret (.int .i64 (cmpP p q)) w) := by
  obtain ⟨D, hD⟩ : ∃ D, cmpP p q = D := ⟨_, rfl⟩
  rw [hD]
  have HD := Lib.hid (show (if cmpI p.1 q.1 = 0 then cmpI p.2 q.2 else cmpI p.1 q.1) = D from hD)
  clear hD
  go_enter Tryd.func39, Tryd.ntmps39
  have HB1 := Lib.hid (boxP w 48 (.int .i64 p.1) (.int .i64 p.2))
  have HB2 := Lib.hid (boxP (w.alloc (.cells #[.int .i64 p.1, .int .i64 p.2] 48)) 48 (.int .i64 q.1) (.int .i64 q.2))
  have HW := Lib.hid (below_step HB1.out.1 HB2.out.1)
  have HC1 := Lib.hid (cell_kept HB2.out.1 HB1.out.2.1)
  have HC2 := Lib.hid (cell_kept HB2.out.1 HB1.out.2.2)
  have HC3 := Lib.hid HB2.out.2
  rw [World.size_alloc] at HC3
  clear HB1 HB2
  go_wp2_with fail
  obtain ⟨W, hW⟩ : ∃ W : World, W = (w.alloc (.cells #[.int .i64 p.1, .int .i64 p.2] 48)).alloc (.cells #[.int .i64 q.1, .int .i64 q.2] 48) := ⟨_, rfl⟩
  rw [← hW] at HW HC1 HC2 HC3 ⊢
  clear hW
  obtain ⟨B, hB⟩ : ∃ B, w.heap.size = B := ⟨_, rfl⟩
  rw [hB] at HC1 HC2 HC3 ⊢
  clear hB
  obtain ⟨c1, hc1⟩ : ∃ c, cmpI p.1 q.1 = c := ⟨_, rfl⟩
  obtain ⟨c2, hc2⟩ : ∃ c, cmpI p.2 q.2 = c := ⟨_, rfl⟩
  have HK1 := Lib.hid (fun (w' : World) => hc1 ▸ Compare_any p.1 q.1 w')
  have HK2 := Lib.hid (fun (w' : World) => hc2 ▸ Compare_any p.2 q.2 w')
  rw [hc1, hc2] at HD
  clear hc1 hc2
  refine wp_region_one 11 10 15 (fun w'' => Below W.heap.size W w'') (.cells #[.int .i64 c1, .int .i64 c2] 3) (fun g => .slice (some ⟨g, 0, none⟩) 2 2) W.heap.size mixed (by kernel_rfl) (by kernel_rfl) (below_closed W) (below_base W) (Below.refl _ _).drew ?_
  simp only [List.take_succ_cons, List.take_zero, List.drop_succ_cons, List.drop_zero, List.eraseIdx_cons_succ, List.eraseIdx_cons_zero]
  intro KR hR
  have HR := Lib.hid hR
  clear hR
  have HCC := Lib.hid (show ∀ w'', Below W.heap.size W w'' → w''.cell? ⟨B, 0, none⟩ = some (.int .i64 p.1) ∧ w''.cell? ⟨B, 1, none⟩ = some (.int .i64 p.2) ∧ w''.cell? ⟨B + 1, 0, none⟩ = some (.int .i64 q.1) ∧ w''.cell? ⟨B + 1, 1, none⟩ = some (.int .i64 q.2) from fun w'' hw => ⟨cell_kept hw HC1.out, cell_kept hw HC2.out, cell_kept hw HC3.out.1, cell_kept hw HC3.out.2⟩)
  apply wpB_val rfl
  · (intro w' hw'; go_simp; with_reducible rfl)
  simp only [Act.put, List.setIfInBounds_toArray, List.set_cons_zero, List.set_cons_succ]
  apply wpB_val rfl
  · (intro w' hw'; obtain ⟨c0, c1, c2, c3⟩ := HCC.out w' hw'; go_simp; with_reducible rfl)
  simp only [Act.put, List.setIfInBounds_toArray, List.set_cons_zero, List.set_cons_succ]
  apply wpB_val rfl
  · (intro w' hw'; go_simp; with_reducible rfl)
  simp only [Act.put, List.setIfInBounds_toArray, List.set_cons_zero, List.set_cons_succ]
  apply wpB_val rfl
  · (intro w' hw'; obtain ⟨c0, c1, c2, c3⟩ := HCC.out w' hw'; go_simp; with_reducible rfl)
  simp only [Act.put, List.setIfInBounds_toArray, List.set_cons_zero, List.set_cons_succ]
  apply wpB_call 41 #[.int .i64 p.1, .int .i64 q.1] rfl (v := .int .i64 c1)
  · (intro w'; go_simp)
  · exact fun w' hw' => HK1.out w'
  simp only [Act.put, List.setIfInBounds_toArray, List.set_cons_zero, List.set_cons_succ]
  apply wpB_val rfl
  · (intro w' hw'; go_simp; with_reducible rfl)
  simp only [Act.put, List.setIfInBounds_toArray, List.set_cons_zero, List.set_cons_succ]
  apply wpB_val rfl
  · (intro w' hw'; obtain ⟨c0, c1, c2, c3⟩ := HCC.out w' hw'; go_simp; with_reducible rfl)
  simp only [Act.put, List.setIfInBounds_toArray, List.set_cons_zero, List.set_cons_succ]
  apply wpB_val rfl
  · (intro w' hw'; go_simp; with_reducible rfl)
  simp only [Act.put, List.setIfInBounds_toArray, List.set_cons_zero, List.set_cons_succ]
  apply wpB_val rfl
  · (intro w' hw'; obtain ⟨c0, c1, c2, c3⟩ := HCC.out w' hw'; go_simp; with_reducible rfl)
  simp only [Act.put, List.setIfInBounds_toArray, List.set_cons_zero, List.set_cons_succ]
  apply wpB_call 41 #[.int .i64 p.2, .int .i64 q.2] rfl (v := .int .i64 c2)
  · (intro w'; go_simp)
  · exact fun w' hw' => HK2.out w'
  simp only [Act.put, List.setIfInBounds_toArray, List.set_cons_zero, List.set_cons_succ]
  refine wpB_nil (HR.out _ ?_ (fun g5 w2 hg5 hw2 hbk => ?_))
  · intro o ho w' hw'
    cases ho
    go_simp
  simp only [Act.put, List.setIfInBounds_toArray, List.set_cons_zero, List.set_cons_succ]
  clear HR HCC
  have HBK := Lib.hid (show Blk w2 g5 3 #[.int .i64 c1, .int .i64 c2] from hbk)
  have HW2 := Lib.hid (below_step HW.out hw2)
  clear hbk hw2 hg5 HK1 HK2
  go_wp2_with fail
  refine (Or_any g5 c1 c2 w2 (HBK.out.cell 0) (HBK.out.cell 1)).mono ?_
  rintro e x ⟨rfl, hb⟩
  have HX := Lib.hid (below_step HW2.out hb)
  clear hb
  rw [HD.out]
  go_wp2
  go_ret
  exact ⟨rfl, HX.out⟩
end Go.Proofs.YtmcodendnpjlaaaDoor
