/- Package auditor: compared. -/
import Derived.Test.YtkfmmiekajgdjaaGreatWm43
import Derived.BigRegion
namespace Go.Proofs.YtkfmmiekajgdjaaGreat
open Go.RowKit
attribute [local go_sem] Oper.semAt_some

def cmpA (a b : SesA) : Bool := decide (a.f = b.f) && (decide (a.t = b.t) && (decide (a.e = b.e) && decide (a.l = b.l)))

set_option maxRecDepth 100000 in
set_option maxHeartbeats 8000000 in
theorem compared_any (w0 w : World) (g : Nat) (c : ClA) (s : SesA) (b : BilA) (r : Int) (h : ExM w0 w g c s b r) (hsl : Twos w s.o s.l) (hn : s.l.length ≤ 48) : Calls Tryz.prog 49 #[.pointer (some ⟨g, 0, none⟩)] w (Need (cmpA c.s s) 3 w) := by
  have HX := Lib.hid h
  have HSL := Lib.hid hsl
  clear h hsl
  have HNO := Lib.hid (fun (w' : World) (hb : Below w.heap.size w w') (hv : cmpA c.s s = false) => show Need (cmpA c.s s) 3 w (.panicked [wrongP 3]) w' from ⟨by rw [hv]; rfl, hb⟩)
  have HOK := Lib.hid (fun (w' : World) (hb : Below w.heap.size w w') (hv : cmpA c.s s = true) => show Need (cmpA c.s s) 3 w (.returned (.tuple #[])) w' from ⟨by rw [hv]; rfl, hb⟩)
  have HV0 := Lib.hid (show cmpA c.s s = (decide (c.s.f = s.f) && (decide (c.s.t = s.t) && (decide (c.s.e = s.e) && decide (c.s.l = s.l)))) from rfl)
  obtain ⟨OUT, hOUT⟩ : ∃ O, Need (cmpA c.s s) 3 w = O := ⟨_, rfl⟩
  rw [hOUT] at HNO HOK ⊢
  clear hOUT
  go_enter Tryz.func49, Tryz.ntmps49
  have x7 : w.cell? ⟨g, 7, none⟩ = some (.int .i64 c.s.f) := HX.out.blk.cell 7
  have x8 : w.cell? ⟨g, 8, none⟩ = some (.int .i64 c.s.t) := HX.out.blk.cell 8
  have x9 : w.cell? ⟨g, 9, none⟩ = some (.int .i64 c.s.e) := HX.out.blk.cell 9
  have x10 : w.cell? ⟨g, 10, none⟩ = some (.slice c.s.o c.s.l.length c.s.cap) := HX.out.blk.cell 10
  have x15 : w.cell? ⟨g, 15, none⟩ = some (.int .i64 s.f) := HX.out.blk.cell 15
  have x16 : w.cell? ⟨g, 16, none⟩ = some (.int .i64 s.t) := HX.out.blk.cell 16
  have x17 : w.cell? ⟨g, 17, none⟩ = some (.int .i64 s.e) := HX.out.blk.cell 17
  have x18 : w.cell? ⟨g, 18, none⟩ = some (.slice s.o s.l.length s.cap) := HX.out.blk.cell 18
  have hgw : g < w.heap.size := HX.out.blk.lt
  have hne1 : ¬ g = w.heap.size := by omega
  have hne2 : ¬ g = w.heap.size + 1 := by omega
  have q7 : ∀ o, (w.alloc o).cell? ⟨g, 7, none⟩ = some (.int .i64 c.s.f) := fun o => cell_kept (below_alloc (Below.refl _ _) o) x7
  have r7 : ∀ o o', ((w.alloc o).alloc o').cell? ⟨g, 7, none⟩ = some (.int .i64 c.s.f) := fun o o' => cell_kept (below_alloc (Below.refl _ _) o') (q7 o)
  have q8 : ∀ o, (w.alloc o).cell? ⟨g, 8, none⟩ = some (.int .i64 c.s.t) := fun o => cell_kept (below_alloc (Below.refl _ _) o) x8
  have r8 : ∀ o o', ((w.alloc o).alloc o').cell? ⟨g, 8, none⟩ = some (.int .i64 c.s.t) := fun o o' => cell_kept (below_alloc (Below.refl _ _) o') (q8 o)
  have q9 : ∀ o, (w.alloc o).cell? ⟨g, 9, none⟩ = some (.int .i64 c.s.e) := fun o => cell_kept (below_alloc (Below.refl _ _) o) x9
  have r9 : ∀ o o', ((w.alloc o).alloc o').cell? ⟨g, 9, none⟩ = some (.int .i64 c.s.e) := fun o o' => cell_kept (below_alloc (Below.refl _ _) o') (q9 o)
  have q10 : ∀ o, (w.alloc o).cell? ⟨g, 10, none⟩ = some (.slice c.s.o c.s.l.length c.s.cap) := fun o => cell_kept (below_alloc (Below.refl _ _) o) x10
  have r10 : ∀ o o', ((w.alloc o).alloc o').cell? ⟨g, 10, none⟩ = some (.slice c.s.o c.s.l.length c.s.cap) := fun o o' => cell_kept (below_alloc (Below.refl _ _) o') (q10 o)
  have q15 : ∀ o, (w.alloc o).cell? ⟨g, 15, none⟩ = some (.int .i64 s.f) := fun o => cell_kept (below_alloc (Below.refl _ _) o) x15
  have r15 : ∀ o o', ((w.alloc o).alloc o').cell? ⟨g, 15, none⟩ = some (.int .i64 s.f) := fun o o' => cell_kept (below_alloc (Below.refl _ _) o') (q15 o)
  have q16 : ∀ o, (w.alloc o).cell? ⟨g, 16, none⟩ = some (.int .i64 s.t) := fun o => cell_kept (below_alloc (Below.refl _ _) o) x16
  have r16 : ∀ o o', ((w.alloc o).alloc o').cell? ⟨g, 16, none⟩ = some (.int .i64 s.t) := fun o o' => cell_kept (below_alloc (Below.refl _ _) o') (q16 o)
  have q17 : ∀ o, (w.alloc o).cell? ⟨g, 17, none⟩ = some (.int .i64 s.e) := fun o => cell_kept (below_alloc (Below.refl _ _) o) x17
  have r17 : ∀ o o', ((w.alloc o).alloc o').cell? ⟨g, 17, none⟩ = some (.int .i64 s.e) := fun o o' => cell_kept (below_alloc (Below.refl _ _) o') (q17 o)
  have q18 : ∀ o, (w.alloc o).cell? ⟨g, 18, none⟩ = some (.slice s.o s.l.length s.cap) := fun o => cell_kept (below_alloc (Below.refl _ _) o) x18
  have r18 : ∀ o o', ((w.alloc o).alloc o').cell? ⟨g, 18, none⟩ = some (.slice s.o s.l.length s.cap) := fun o o' => cell_kept (below_alloc (Below.refl _ _) o') (q18 o)
  go_wp2_with fail
  go_region
  · obtain ⟨wa, hwa⟩ : ∃ W1, W1 = w.alloc (.cells #[.int .i64 c.s.f, .int .i64 c.s.t, .int .i64 c.s.e, .slice c.s.o c.s.l.length c.s.cap] 35) := ⟨_, rfl⟩
    obtain ⟨W1, hW1⟩ : ∃ W1, W1 = (wa.alloc (.cells #[.int .i64 s.f, .int .i64 s.t, .int .i64 s.e, .slice s.o s.l.length s.cap] 35)).drew := ⟨_, rfl⟩
    have hsz : wa.heap.size = w.heap.size + 1 := by rw [hwa, World.size_alloc]
    have HP := Lib.hid (show Blk W1 (w.heap.size) 35 #[.int .i64 c.s.f, .int .i64 c.s.t, .int .i64 c.s.e, .slice c.s.o c.s.l.length c.s.cap] by
      rw [hW1]; first | (rw [← hsz]; exact Blk.new _ _ _) | (refine Blk.alloc ?_ _; rw [hwa]; exact Blk.new _ _ _))
    have HR := Lib.hid (show Blk W1 (w.heap.size + 1) 35 #[.int .i64 s.f, .int .i64 s.t, .int .i64 s.e, .slice s.o s.l.length s.cap] by
      rw [hW1]; first | (rw [← hsz]; exact Blk.new _ _ _) | (refine Blk.alloc ?_ _; rw [hwa]; exact Blk.new _ _ _))
    have HB := Lib.hid (show Below w.heap.size w W1 by rw [hW1, hwa]; exact below_step (below_alloc (below_alloc (Below.refl _ _) _) _) (Below.refl _ _).drew)
    clear q7 q8 q9 q10 q15 q16 q17 q18 r7 r8 r9 r10 r15 r16 r17 r18 x7 x8 x9 x10 x15 x16 x17 x18 hne1 hne2 hgw
    rw [← hwa, ← hW1]
    obtain ⟨P, hP⟩ : ∃ P, P = w.heap.size := ⟨_, rfl⟩
    obtain ⟨R, hR⟩ : ∃ R, R = w.heap.size + 1 := ⟨_, rfl⟩
    rw [← hP] at HP
    rw [← hR] at HR
    rw [← hR, ← hP]
    clear hP hR hwa hW1 hsz
    have HV := HV0
    have y0 : W1.cell? ⟨P, 0, none⟩ = some (.int .i64 c.s.f) := HP.out.cell 0
    have y1 : W1.cell? ⟨P, 1, none⟩ = some (.int .i64 c.s.t) := HP.out.cell 1
    have y2 : W1.cell? ⟨P, 2, none⟩ = some (.int .i64 c.s.e) := HP.out.cell 2
    have y3 : W1.cell? ⟨P, 3, none⟩ = some (.slice c.s.o c.s.l.length c.s.cap) := HP.out.cell 3
    have z0 : W1.cell? ⟨R, 0, none⟩ = some (.int .i64 s.f) := HR.out.cell 0
    have z1 : W1.cell? ⟨R, 1, none⟩ = some (.int .i64 s.t) := HR.out.cell 1
    have z2 : W1.cell? ⟨R, 2, none⟩ = some (.int .i64 s.e) := HR.out.cell 2
    have z3 : W1.cell? ⟨R, 3, none⟩ = some (.slice s.o s.l.length s.cap) := HR.out.cell 3
    by_cases k1 : c.s.f = s.f
    rotate_left
    · have d1 : (c.s.f == s.f) = false := by simpa using k1
      have HVF := Lib.hid (show cmpA c.s s = false by rw [HV.out, decide_eq_false k1]; simp)
      clear k1
      go_wp2_with fail
      refine (need_no 3 W1).mono ?_
      rintro _ _ ⟨rfl, rfl⟩
      go_wp2
      exact ⟨rfl, HNO.out _ HB.out HVF.out⟩
    have d1 : (c.s.f == s.f) = true := by simpa using k1
    replace HV := Lib.hid (HV.out.trans (by rw [decide_eq_true k1]))
    clear k1
    by_cases k2 : c.s.t = s.t
    rotate_left
    · have d2 : (c.s.t == s.t) = false := by simpa using k2
      have HVF := Lib.hid (show cmpA c.s s = false by rw [HV.out, decide_eq_false k2]; simp)
      clear k2
      go_wp2_with fail
      refine (need_no 3 W1).mono ?_
      rintro _ _ ⟨rfl, rfl⟩
      go_wp2
      exact ⟨rfl, HNO.out _ HB.out HVF.out⟩
    have d2 : (c.s.t == s.t) = true := by simpa using k2
    replace HV := Lib.hid (HV.out.trans (by rw [decide_eq_true k2]))
    clear k2
    by_cases k3 : c.s.e = s.e
    rotate_left
    · have d3 : (c.s.e == s.e) = false := by simpa using k3
      have HVF := Lib.hid (show cmpA c.s s = false by rw [HV.out, decide_eq_false k3]; simp)
      clear k3
      go_wp2_with fail
      refine (need_no 3 W1).mono ?_
      rintro _ _ ⟨rfl, rfl⟩
      go_wp2
      exact ⟨rfl, HNO.out _ HB.out HVF.out⟩
    have d3 : (c.s.e == s.e) = true := by simpa using k3
    replace HV := Lib.hid (HV.out.trans (by rw [decide_eq_true k3]))
    clear k3
    go_wp2_with fail
    refine (sameS_any _ _ _ _ c.s.l s.l W1 (HX.out.later HB.out).here.sls (HSL.out.later HB.out) HX.out.cl.ns (by omega)).mono ?_
    rintro _ W2 ⟨rfl, hb⟩
    have HB2 := Lib.hid hb
    clear hb y0 y1 y2 y3 z0 z1 z2 z3 d1 d2 d3
    replace HV := Lib.hid (show cmpA c.s s = decide (c.s.l = s.l) from HV.out.trans (by simp))
    obtain ⟨v, hv⟩ : ∃ v, decide (c.s.l = s.l) = v := ⟨_, rfl⟩
    rw [hv] at HV ⊢
    clear hv
    cases v with
    | false =>
      go_wp2_with fail
      refine (need_no 3 W2).mono ?_
      rintro _ _ ⟨rfl, rfl⟩
      go_wp2
      exact ⟨rfl, HNO.out _ (below_step HB.out HB2.out) HV.out⟩
    | true =>
      go_wp2_with fail
      refine (need_ok 3 W2).mono ?_
      rintro _ _ ⟨rfl, rfl⟩
      go_wp2
      go_end0
      exact HOK.out _ (below_step HB.out HB2.out) HV.out
  · obtain ⟨wa, hwa⟩ : ∃ W1, W1 = w.alloc (.cells #[.int .i64 s.f, .int .i64 s.t, .int .i64 s.e, .slice s.o s.l.length s.cap] 35) := ⟨_, rfl⟩
    obtain ⟨W1, hW1⟩ : ∃ W1, W1 = (wa.alloc (.cells #[.int .i64 c.s.f, .int .i64 c.s.t, .int .i64 c.s.e, .slice c.s.o c.s.l.length c.s.cap] 35)).drew := ⟨_, rfl⟩
    have hsz : wa.heap.size = w.heap.size + 1 := by rw [hwa, World.size_alloc]
    have HP := Lib.hid (show Blk W1 (w.heap.size + 1) 35 #[.int .i64 c.s.f, .int .i64 c.s.t, .int .i64 c.s.e, .slice c.s.o c.s.l.length c.s.cap] by
      rw [hW1]; first | (rw [← hsz]; exact Blk.new _ _ _) | (refine Blk.alloc ?_ _; rw [hwa]; exact Blk.new _ _ _))
    have HR := Lib.hid (show Blk W1 (w.heap.size) 35 #[.int .i64 s.f, .int .i64 s.t, .int .i64 s.e, .slice s.o s.l.length s.cap] by
      rw [hW1]; first | (rw [← hsz]; exact Blk.new _ _ _) | (refine Blk.alloc ?_ _; rw [hwa]; exact Blk.new _ _ _))
    have HB := Lib.hid (show Below w.heap.size w W1 by rw [hW1, hwa]; exact below_step (below_alloc (below_alloc (Below.refl _ _) _) _) (Below.refl _ _).drew)
    clear q7 q8 q9 q10 q15 q16 q17 q18 r7 r8 r9 r10 r15 r16 r17 r18 x7 x8 x9 x10 x15 x16 x17 x18 hne1 hne2 hgw
    rw [← hwa, ← hW1]
    obtain ⟨P, hP⟩ : ∃ P, P = w.heap.size + 1 := ⟨_, rfl⟩
    obtain ⟨R, hR⟩ : ∃ R, R = w.heap.size := ⟨_, rfl⟩
    rw [← hP] at HP
    rw [← hR] at HR
    rw [← hP, ← hR]
    clear hP hR hwa hW1 hsz
    have HV := HV0
    have y0 : W1.cell? ⟨P, 0, none⟩ = some (.int .i64 c.s.f) := HP.out.cell 0
    have y1 : W1.cell? ⟨P, 1, none⟩ = some (.int .i64 c.s.t) := HP.out.cell 1
    have y2 : W1.cell? ⟨P, 2, none⟩ = some (.int .i64 c.s.e) := HP.out.cell 2
    have y3 : W1.cell? ⟨P, 3, none⟩ = some (.slice c.s.o c.s.l.length c.s.cap) := HP.out.cell 3
    have z0 : W1.cell? ⟨R, 0, none⟩ = some (.int .i64 s.f) := HR.out.cell 0
    have z1 : W1.cell? ⟨R, 1, none⟩ = some (.int .i64 s.t) := HR.out.cell 1
    have z2 : W1.cell? ⟨R, 2, none⟩ = some (.int .i64 s.e) := HR.out.cell 2
    have z3 : W1.cell? ⟨R, 3, none⟩ = some (.slice s.o s.l.length s.cap) := HR.out.cell 3
    by_cases k1 : c.s.f = s.f
    rotate_left
    · have d1 : (c.s.f == s.f) = false := by simpa using k1
      have HVF := Lib.hid (show cmpA c.s s = false by rw [HV.out, decide_eq_false k1]; simp)
      clear k1
      go_wp2_with fail
      refine (need_no 3 W1).mono ?_
      rintro _ _ ⟨rfl, rfl⟩
      go_wp2
      exact ⟨rfl, HNO.out _ HB.out HVF.out⟩
    have d1 : (c.s.f == s.f) = true := by simpa using k1
    replace HV := Lib.hid (HV.out.trans (by rw [decide_eq_true k1]))
    clear k1
    by_cases k2 : c.s.t = s.t
    rotate_left
    · have d2 : (c.s.t == s.t) = false := by simpa using k2
      have HVF := Lib.hid (show cmpA c.s s = false by rw [HV.out, decide_eq_false k2]; simp)
      clear k2
      go_wp2_with fail
      refine (need_no 3 W1).mono ?_
      rintro _ _ ⟨rfl, rfl⟩
      go_wp2
      exact ⟨rfl, HNO.out _ HB.out HVF.out⟩
    have d2 : (c.s.t == s.t) = true := by simpa using k2
    replace HV := Lib.hid (HV.out.trans (by rw [decide_eq_true k2]))
    clear k2
    by_cases k3 : c.s.e = s.e
    rotate_left
    · have d3 : (c.s.e == s.e) = false := by simpa using k3
      have HVF := Lib.hid (show cmpA c.s s = false by rw [HV.out, decide_eq_false k3]; simp)
      clear k3
      go_wp2_with fail
      refine (need_no 3 W1).mono ?_
      rintro _ _ ⟨rfl, rfl⟩
      go_wp2
      exact ⟨rfl, HNO.out _ HB.out HVF.out⟩
    have d3 : (c.s.e == s.e) = true := by simpa using k3
    replace HV := Lib.hid (HV.out.trans (by rw [decide_eq_true k3]))
    clear k3
    go_wp2_with fail
    refine (sameS_any _ _ _ _ c.s.l s.l W1 (HX.out.later HB.out).here.sls (HSL.out.later HB.out) HX.out.cl.ns (by omega)).mono ?_
    rintro _ W2 ⟨rfl, hb⟩
    have HB2 := Lib.hid hb
    clear hb y0 y1 y2 y3 z0 z1 z2 z3 d1 d2 d3
    replace HV := Lib.hid (show cmpA c.s s = decide (c.s.l = s.l) from HV.out.trans (by simp))
    obtain ⟨v, hv⟩ : ∃ v, decide (c.s.l = s.l) = v := ⟨_, rfl⟩
    rw [hv] at HV ⊢
    clear hv
    cases v with
    | false =>
      go_wp2_with fail
      refine (need_no 3 W2).mono ?_
      rintro _ _ ⟨rfl, rfl⟩
      go_wp2
      exact ⟨rfl, HNO.out _ (below_step HB.out HB2.out) HV.out⟩
    | true =>
      go_wp2_with fail
      refine (need_ok 3 W2).mono ?_
      rintro _ _ ⟨rfl, rfl⟩
      go_wp2
      go_end0
      exact HOK.out _ (below_step HB.out HB2.out) HV.out
end Go.Proofs.YtkfmmiekajgdjaaGreat