/- Package bill: Bill. -/
import Derived.Test.YtkfmmiekajgdjaaGreatVe43
import Derived.Defers
import Derived.Recover
namespace Go.Proofs.YtkfmmiekajgdjaaGreat
open Go.RowKit
attribute [local go_sem] Oper.semAt_some

set_option maxHeartbeats 4000000 in
theorem bcaught_no (p : Addr) (w : World) : Calls Tryz.prog 38 #[.nilIface, .pointer (some p)] w (fun e w' => e = .returned (.tuple #[]) ∧ w' = w) := by
  go_enter Tryz.func38, Tryz.ntmps38
  go_wp2
  refine bodyPost_ret (results_none rfl _ _ _) rfl ?_
  exact ⟨rfl, rfl⟩
set_option maxRecDepth 100000 in
set_option maxHeartbeats 4000000 in
theorem bcaught_some (b : Nat) (x err : Int) (w : World) (hc : w.cell? ⟨b, 0, none⟩ = some (.int .i64 x)) (hz : w.frozen? ⟨b, 0, none⟩ = false) : Calls Tryz.prog 38 #[.iface 131 (.agg #[.int .i64 err]), .pointer (some ⟨b, 0, none⟩)] w (fun e w' => e = .returned (.tuple #[]) ∧ w' = (w.setCell ⟨b, 0, none⟩ (.int .i64 err)).alloc (.cells #[.int .i64 err] 131)) := by
  have hlt : b < w.heap.size := cell_lt hc
  have hne : ¬ b = w.heap.size := by omega
  have q0 : ∀ o, (w.alloc o).cell? ⟨b, 0, none⟩ = some (.int .i64 x) := fun o => cell_kept (below_alloc (Below.refl _ _) o) hc
  go_enter Tryz.func38, Tryz.ntmps38
  have hta : ∀ W, (Instr.typeAssert (.iface 131 (.agg #[.int .i64 err])) 20 131 true).run Tryz.prog W = .ok (.tuple #[.agg #[.int .i64 err], .bool true]) W := fun W => by kernel_rfl
  go_wp2
  go_end0
  exact ⟨rfl, rfl⟩
set_option maxHeartbeats 4000000 in
theorem bill_idle (p : Addr) (w : World) :
    CallsD Tryz.prog 37 #[.pointer (some p)] .returning w fun e u' w' => e = .returned (.tuple #[]) ∧ u' = .returning ∧ w' = w := by
  refine callsD_of_wpS Tryz.func37 rfl fun c₀ cs hu => ?_
  apply wpS_region
  simp [wpOpsS, go_sem, recoverD, hu, Tryz.ntmps37]
  refine (bcaught_no p w).mono ?_
  rintro _ _ ⟨rfl, rfl⟩
  cases c₀
  simp_all [bodyPostS, results, Tryz.results37]
set_option maxHeartbeats 4000000 in
theorem bill_panic (b : Nat) (x err : Int) (older : List PanicEntry) (w : World) (hc : w.cell? ⟨b, 0, none⟩ = some (.int .i64 x)) (hz : w.frozen? ⟨b, 0, none⟩ = false) :
    CallsD Tryz.prog 37 #[.pointer (some ⟨b, 0, none⟩)] (.panicking ({ v := .iface 131 (.agg #[.int .i64 err]), recovered := false } :: older)) w fun e u' w' =>
      e = .returned (.tuple #[]) ∧ u' = .panicking ({ v := .iface 131 (.agg #[.int .i64 err]), recovered := true } :: older) ∧ w' = (w.setCell ⟨b, 0, none⟩ (.int .i64 err)).alloc (.cells #[.int .i64 err] 131) := by
  refine callsD_of_wpS Tryz.func37 rfl fun c₀ cs hu => ?_
  apply wpS_region
  simp [wpOpsS, go_sem, recoverD, hu, Tryz.ntmps37]
  refine (bcaught_some b x err w hc hz).mono ?_
  rintro _ _ ⟨rfl, rfl⟩
  cases c₀
  simp_all [bodyPostS, results, Tryz.results37]

def billOk (c : ClA) (s : SesA) : Bool := tarA c.nm c.arts && (datA c.off c.chg c.hol && (sesB s && sumOk c s))
/-- What Bill answers: the bill, or an error. -/
def BillOut (c : ClA) (s : SesA) (w : World) (e : Ending) (w' : World) : Prop := Below w.heap.size w w' ∧
  ((billOk c s = true ∧ ∃ o cap, e = .returned (.tuple #[.agg #[.slice o (linA c s c.arts.length).length cap, .int .i64 (netB c s), .int .i64 (taxB c s), .int .i64 (netB c s + taxB c s)], .int .i64 0]) ∧ TwosN w.heap.size w' o (linA c s c.arts.length)) ∨ (billOk c s = false ∧ ∃ k : Int, (k == 0) = false ∧ e = .returned (.tuple #[.agg #[.slice none 0 0, .int .i64 0, .int .i64 0, .int .i64 0], .int .i64 k])))
theorem bill_yes {c : ClA} {s : SesA} {w w' : World} {o : Option Addr} {cap : Nat} (hb : Below w.heap.size w w') (h : billOk c s = true) (ht : TwosN w.heap.size w' o (linA c s c.arts.length)) : BillOut c s w (.returned (.tuple #[.agg #[.slice o (linA c s c.arts.length).length cap, .int .i64 (netB c s), .int .i64 (taxB c s), .int .i64 (netB c s + taxB c s)], .int .i64 0])) w' := ⟨hb, .inl ⟨h, o, cap, rfl, ht⟩⟩
theorem bill_no {c : ClA} {s : SesA} {w w' : World} {k : Int} (hb : Below w.heap.size w w') (h : billOk c s = false) (hk : (k == 0) = false) : BillOut c s w (.returned (.tuple #[.agg #[.slice none 0 0, .int .i64 0, .int .i64 0, .int .i64 0], .int .i64 k])) w' := ⟨hb, .inr ⟨h, k, hk, rfl⟩⟩

set_option maxRecDepth 100000 in
set_option maxHeartbeats 16000000 in
theorem Bill_any (w : World) (c : ClA) (s : SesA) (hA : Arts w c.oa c.arts) (hC : CalM w c) (hS : Twos w s.o s.l) (hnm : c.nm.size ≤ 9000000000000000000) (hna : c.arts.length ≤ 9000000000000000000) (hns : s.l.length ≤ 9000000000000000000) (ht : s.t ≤ 9223372036854775807) : Calls Tryz.prog 21 #[.agg #[.string c.nm, .slice c.oa c.arts.length c.ca], .agg #[.int .i64 c.off, .slice c.oc c.chg.length c.cc, .slice c.oh c.hol.length c.ch], .agg #[.int .i64 s.f, .int .i64 s.t, .int .i64 s.e, .slice s.o s.l.length s.cap]] w (BillOut c s w) := by
  have HA := Lib.hid hA
  have HC := Lib.hid hC
  have HS := Lib.hid hS
  clear hA hC hS
  have HY := Lib.hid (fun (w' : World) (o : Option Addr) (cap : Nat) hb h ht => bill_yes (c := c) (s := s) (w := w) (w' := w') (o := o) (cap := cap) hb h ht)
  have HN := Lib.hid (fun (w' : World) (k : Int) hb h hk => bill_no (c := c) (s := s) (w := w) (w' := w') (k := k) hb h hk)
  have HV := Lib.hid (show billOk c s = (tarA c.nm c.arts && (datA c.off c.chg c.hol && (sesB s && sumOk c s))) from rfl)
  obtain ⟨OUT, hO⟩ : ∃ O, BillOut c s w = O := ⟨_, rfl⟩
  rw [hO] at HY HN ⊢
  clear hO
  have hmf : ∀ (fn : Fn) (first cap : Array Value) (w : World), (Instr.makeFunc fn first cap).run Tryz.prog w = .ok (.func fn first cap) w := fun _ _ _ _ => rfl
  go_enter_defers Tryz.func21, Tryz.ntmps21
  go_upto_region 2 with (fail)
  obtain ⟨wa, hwa⟩ : ∃ W, W = w.alloc (.cells #[.string c.nm, .slice c.oa c.arts.length c.ca] 24) := ⟨_, rfl⟩
  obtain ⟨wb, hwb⟩ : ∃ W, W = wa.alloc (.cells #[.int .i64 c.off, .slice c.oc c.chg.length c.cc, .slice c.oh c.hol.length c.ch] 28) := ⟨_, rfl⟩
  obtain ⟨wc, hwc⟩ : ∃ W, W = wb.alloc (.cells #[.int .i64 s.f, .int .i64 s.t, .int .i64 s.e, .slice s.o s.l.length s.cap] 35) := ⟨_, rfl⟩
  obtain ⟨w2, hw2⟩ : ∃ W, W = wc.alloc (.cells #[.slice none 0 0, .int .i64 0, .int .i64 0, .int .i64 0] 39) := ⟨_, rfl⟩
  obtain ⟨W1, hW1⟩ : ∃ W, W = w2.alloc (.cells #[.int .i64 0] 46) := ⟨_, rfl⟩
  have hsa : wa.heap.size = w.heap.size + 1 := by rw [hwa, World.size_alloc]
  have hsb : wb.heap.size = w.heap.size + 1 + 1 := by rw [hwb, World.size_alloc, hsa]
  have hsc : wc.heap.size = w.heap.size + 1 + 2 := by rw [hwc, World.size_alloc, hsb]
  have hs2 : w2.heap.size = w.heap.size + 1 + 3 := by rw [hw2, World.size_alloc, hsc]
  have HQ0 := Lib.hid (show Blk W1 w.heap.size 24 #[.string c.nm, .slice c.oa c.arts.length c.ca] by rw [hW1, hw2, hwc, hwb]; refine Blk.alloc (Blk.alloc (Blk.alloc (Blk.alloc ?_ _) _) _) _; rw [hwa]; exact Blk.new _ _ _)
  have HQ1 := Lib.hid (show Blk W1 (w.heap.size + 1) 28 #[.int .i64 c.off, .slice c.oc c.chg.length c.cc, .slice c.oh c.hol.length c.ch] by rw [hW1, hw2, hwc]; refine Blk.alloc (Blk.alloc (Blk.alloc ?_ _) _) _; rw [hwb, ← hsa]; exact Blk.new _ _ _)
  have HQ2 := Lib.hid (show Blk W1 (w.heap.size + 1 + 1) 35 #[.int .i64 s.f, .int .i64 s.t, .int .i64 s.e, .slice s.o s.l.length s.cap] by rw [hW1, hw2]; refine Blk.alloc (Blk.alloc ?_ _) _; rw [hwc, ← hsb]; exact Blk.new _ _ _)
  have HR := Lib.hid (show Blk W1 (w.heap.size + 1 + 2) 39 #[.slice none 0 0, .int .i64 0, .int .i64 0, .int .i64 0] by rw [hW1]; refine Blk.alloc ?_ _; rw [hw2, ← hsc]; exact Blk.new _ _ _)
  have HP := Lib.hid (show Blk W1 (w.heap.size + 1 + 3) 46 #[.int .i64 0] by rw [hW1, ← hs2]; exact Blk.new _ _ _)
  have HB := Lib.hid (show Below w.heap.size w W1 by rw [hW1, hw2, hwc, hwb, hwa]; exact below_alloc (below_alloc (below_alloc (below_alloc (below_alloc (Below.refl _ _) _) _) _) _) _)
  have hSW : W1 = ((((w.alloc (.cells #[.string c.nm, .slice c.oa c.arts.length c.ca] 24)).alloc (.cells #[.int .i64 c.off, .slice c.oc c.chg.length c.cc, .slice c.oh c.hol.length c.ch] 28)).alloc (.cells #[.int .i64 s.f, .int .i64 s.t, .int .i64 s.e, .slice s.o s.l.length s.cap] 35)).alloc (.cells #[.slice none 0 0, .int .i64 0, .int .i64 0, .int .i64 0] 39)).alloc (.cells #[.int .i64 0] 46) := by rw [hW1, hw2, hwc, hwb, hwa]
  obtain ⟨P, hP⟩ : ∃ B, B = w.heap.size + 1 + 3 := ⟨_, rfl⟩
  obtain ⟨R, hR⟩ : ∃ R, R = w.heap.size + 1 + 2 := ⟨_, rfl⟩
  obtain ⟨Q2, hQ2⟩ : ∃ R, R = w.heap.size + 1 + 1 := ⟨_, rfl⟩
  obtain ⟨Q1, hQ1⟩ : ∃ R, R = w.heap.size + 1 := ⟨_, rfl⟩
  obtain ⟨Q0, hQ0⟩ : ∃ R, R = w.heap.size := ⟨_, rfl⟩
  have HBB := Lib.hid (show P = R + 1 ∧ w.heap.size ≤ R by omega)
  rw [← hSW]
  rw [← hP] at HP ⊢
  rw [← hR] at HR ⊢
  rw [← hQ2] at HQ2 ⊢
  rw [← hQ1] at HQ1 ⊢
  rw [← hQ0] at HQ0 ⊢
  clear hP hR hQ2 hQ1 hQ0 hSW hW1 hw2 hwc hwb hwa hsa hsb hsc hs2
  replace HA := Lib.hid (HA.out.later HB.out)
  replace HC := Lib.hid (HC.out.later HB.out)
  replace HS := Lib.hid (HS.out.later HB.out)
  have q0 : W1.cell? ⟨Q0, 0, none⟩ = some (.string c.nm) := HQ0.out.cell 0
  have q1 : W1.cell? ⟨Q0, 1, none⟩ = some (.slice c.oa c.arts.length c.ca) := HQ0.out.cell 1
  go_wp2_with fail
  refine (tariffValid_any c.nm c.oa c.ca c.arts W1 HA.out hnm hna).mono ?_
  rintro _ W2 ⟨rfl, hb⟩
  replace HQ0 := Lib.hid (HQ0.out.later hb)
  replace HQ1 := Lib.hid (HQ1.out.later hb)
  replace HQ2 := Lib.hid (HQ2.out.later hb)
  replace HR := Lib.hid (HR.out.later hb)
  replace HP := Lib.hid (HP.out.later hb)
  replace HA := Lib.hid (HA.out.later hb)
  replace HC := Lib.hid (HC.out.later hb)
  replace HS := Lib.hid (HS.out.later hb)
  replace HB := Lib.hid (below_step HB.out hb)
  clear hb q0 q1
  obtain ⟨b1, hb1⟩ : ∃ b, tarA c.nm c.arts = b := ⟨_, rfl⟩
  have HB1 := Lib.hid hb1
  rw [hb1] at HV ⊢
  clear hb1
  have p0 : W2.cell? ⟨P, 0, none⟩ = some (.int .i64 0) := HP.out.cell 0
  have r0 : W2.cell? ⟨R, 0, none⟩ = some (.slice none 0 0) := HR.out.cell 0
  have r1 : W2.cell? ⟨R, 1, none⟩ = some (.int .i64 0) := HR.out.cell 1
  have r2 : W2.cell? ⟨R, 2, none⟩ = some (.int .i64 0) := HR.out.cell 2
  have r3 : W2.cell? ⟨R, 3, none⟩ = some (.int .i64 0) := HR.out.cell 3
  have y0 := HR.out.frozen 0
  have y1 := HR.out.frozen 1
  have y2 := HR.out.frozen 2
  have y3 := HR.out.frozen 3
  have y4 := HP.out.frozen 0
  cases b1 with
  | false =>
    have HOK := Lib.hid (show billOk c s = false by rw [HV.out]; rfl)
    clear HQ0 HQ1 HQ2 HA HC HS
    have hne : ¬ P = R := by have := HBB.out; omega
    have hne' : ¬ R = P := by have := HBB.out; omega
    go_wp2
    have HR7 := Lib.hid (((((HR.out.set 0 (.slice none 0 0)).set 1 (.int .i64 0)).set 2 (.int .i64 0)).set 3 (.int .i64 0)).other (p := ⟨P, 0, none⟩) hne' (.int .i64 1))
    have HP7 := Lib.hid (((((HP.out.other (p := ⟨R, 0, none⟩) hne (.slice none 0 0)).other (p := ⟨R, 1, none⟩) hne (.int .i64 0)).other (p := ⟨R, 2, none⟩) hne (.int .i64 0)).other (p := ⟨R, 3, none⟩) hne (.int .i64 0)).set 0 (.int .i64 1))
    have HA7 := Lib.hid ((((((Agr.refl W2 [R, P]).set (g := R) (i := 0) (u := .slice none 0 0) (by simp)).set (g := R) (i := 1) (u := .int .i64 0) (by simp)).set (g := R) (i := 2) (u := .int .i64 0) (by simp)).set (g := R) (i := 3) (u := .int .i64 0) (by simp)).set (g := P) (i := 0) (u := .int .i64 1) (by simp))
    have HB7 := Lib.hid (HA7.out.below HB.out (by have := HBB.out; intro b hb; simp at hb; omega))
    generalize (((((W2.setCell ⟨R, 0, none⟩ (.slice none 0 0)).setCell ⟨R, 1, none⟩ (.int .i64 0)).setCell ⟨R, 2, none⟩ (.int .i64 0)).setCell ⟨R, 3, none⟩ (.int .i64 0)).setCell ⟨P, 0, none⟩ (.int .i64 1)) = w7 at HR7 HP7 HA7 HB7 ⊢
    clear p0 r0 r1 r2 r3 y0 y1 y2 y3 y4 hne hne'
    refine leaves_cons (f := 37) (args := #[.pointer (some ⟨P, 0, none⟩)]) (by simp) (by simp [go_sem]) ?_
    refine (bill_idle ⟨P, 0, none⟩ _).mono ?_
    rintro e u' w'' ⟨rfl, rfl, rfl⟩
    have r0 : w''.cell? ⟨R, 0, none⟩ = some (.slice none 0 0) := HR7.out.cell 0
    have r1 : w''.cell? ⟨R, 1, none⟩ = some (.int .i64 0) := HR7.out.cell 1
    have r2 : w''.cell? ⟨R, 2, none⟩ = some (.int .i64 0) := HR7.out.cell 2
    have r3 : w''.cell? ⟨R, 3, none⟩ = some (.int .i64 0) := HR7.out.cell 3
    have p0 : w''.cell? ⟨P, 0, none⟩ = some (.int .i64 1) := HP7.out.cell 0
    clear hmf
    simp [Leaves, settle, results, Tryz.results21, go_sem, r0, r1, r2, r3, p0]
    exact HN.out _ _ HB7.out HOK.out rfl
  | true =>
  clear p0 r0 r1 r2 r3 y0 y1 y2 y3 y4
  have u0 : W2.cell? ⟨Q1, 0, none⟩ = some (.int .i64 c.off) := HQ1.out.cell 0
  have u1 : W2.cell? ⟨Q1, 1, none⟩ = some (.slice c.oc c.chg.length c.cc) := HQ1.out.cell 1
  have u2 : W2.cell? ⟨Q1, 2, none⟩ = some (.slice c.oh c.hol.length c.ch) := HQ1.out.cell 2
  have HDV := Lib.hid (datA_val c.off c.chg c.hol)
  go_wp2_with fail
  refine (dvalid_any c.off c.oc c.oh c.cc c.ch c.chg c.hol W2 HC.out.chg HC.out.hol).mono ?_
  rintro _ W3 ⟨rfl, hb⟩
  rw [← HDV.out]
  replace HQ0 := Lib.hid (HQ0.out.later hb)
  replace HQ1 := Lib.hid (HQ1.out.later hb)
  replace HQ2 := Lib.hid (HQ2.out.later hb)
  replace HR := Lib.hid (HR.out.later hb)
  replace HP := Lib.hid (HP.out.later hb)
  replace HA := Lib.hid (HA.out.later hb)
  replace HC := Lib.hid (HC.out.later hb)
  replace HS := Lib.hid (HS.out.later hb)
  replace HB := Lib.hid (below_step HB.out hb)
  clear hb u0 u1 u2
  obtain ⟨b2, hb2⟩ : ∃ b, datA c.off c.chg c.hol = b := ⟨_, rfl⟩
  have HB2 := Lib.hid hb2
  rw [hb2] at HV ⊢
  clear hb2
  have p0 : W3.cell? ⟨P, 0, none⟩ = some (.int .i64 0) := HP.out.cell 0
  have r0 : W3.cell? ⟨R, 0, none⟩ = some (.slice none 0 0) := HR.out.cell 0
  have r1 : W3.cell? ⟨R, 1, none⟩ = some (.int .i64 0) := HR.out.cell 1
  have r2 : W3.cell? ⟨R, 2, none⟩ = some (.int .i64 0) := HR.out.cell 2
  have r3 : W3.cell? ⟨R, 3, none⟩ = some (.int .i64 0) := HR.out.cell 3
  have y0 := HR.out.frozen 0
  have y1 := HR.out.frozen 1
  have y2 := HR.out.frozen 2
  have y3 := HR.out.frozen 3
  have y4 := HP.out.frozen 0
  cases b2 with
  | false =>
    have HOK := Lib.hid (show billOk c s = false by rw [HV.out]; rfl)
    clear HQ0 HQ1 HQ2 HA HC HS
    have hne : ¬ P = R := by have := HBB.out; omega
    have hne' : ¬ R = P := by have := HBB.out; omega
    go_wp2
    have HR7 := Lib.hid (((((HR.out.set 0 (.slice none 0 0)).set 1 (.int .i64 0)).set 2 (.int .i64 0)).set 3 (.int .i64 0)).other (p := ⟨P, 0, none⟩) hne' (.int .i64 1))
    have HP7 := Lib.hid (((((HP.out.other (p := ⟨R, 0, none⟩) hne (.slice none 0 0)).other (p := ⟨R, 1, none⟩) hne (.int .i64 0)).other (p := ⟨R, 2, none⟩) hne (.int .i64 0)).other (p := ⟨R, 3, none⟩) hne (.int .i64 0)).set 0 (.int .i64 1))
    have HA7 := Lib.hid ((((((Agr.refl W3 [R, P]).set (g := R) (i := 0) (u := .slice none 0 0) (by simp)).set (g := R) (i := 1) (u := .int .i64 0) (by simp)).set (g := R) (i := 2) (u := .int .i64 0) (by simp)).set (g := R) (i := 3) (u := .int .i64 0) (by simp)).set (g := P) (i := 0) (u := .int .i64 1) (by simp))
    have HB7 := Lib.hid (HA7.out.below HB.out (by have := HBB.out; intro b hb; simp at hb; omega))
    generalize (((((W3.setCell ⟨R, 0, none⟩ (.slice none 0 0)).setCell ⟨R, 1, none⟩ (.int .i64 0)).setCell ⟨R, 2, none⟩ (.int .i64 0)).setCell ⟨R, 3, none⟩ (.int .i64 0)).setCell ⟨P, 0, none⟩ (.int .i64 1)) = w7 at HR7 HP7 HA7 HB7 ⊢
    clear p0 r0 r1 r2 r3 y0 y1 y2 y3 y4 hne hne'
    refine leaves_cons (f := 37) (args := #[.pointer (some ⟨P, 0, none⟩)]) (by simp) (by simp [go_sem]) ?_
    refine (bill_idle ⟨P, 0, none⟩ _).mono ?_
    rintro e u' w'' ⟨rfl, rfl, rfl⟩
    have r0 : w''.cell? ⟨R, 0, none⟩ = some (.slice none 0 0) := HR7.out.cell 0
    have r1 : w''.cell? ⟨R, 1, none⟩ = some (.int .i64 0) := HR7.out.cell 1
    have r2 : w''.cell? ⟨R, 2, none⟩ = some (.int .i64 0) := HR7.out.cell 2
    have r3 : w''.cell? ⟨R, 3, none⟩ = some (.int .i64 0) := HR7.out.cell 3
    have p0 : w''.cell? ⟨P, 0, none⟩ = some (.int .i64 1) := HP7.out.cell 0
    clear hmf
    simp [Leaves, settle, results, Tryz.results21, go_sem, r0, r1, r2, r3, p0]
    exact HN.out _ _ HB7.out HOK.out rfl
  | true =>
  clear p0 r0 r1 r2 r3 y0 y1 y2 y3 y4
  have u0 : W3.cell? ⟨Q2, 0, none⟩ = some (.int .i64 s.f) := HQ2.out.cell 0
  have u1 : W3.cell? ⟨Q2, 1, none⟩ = some (.int .i64 s.t) := HQ2.out.cell 1
  have u2 : W3.cell? ⟨Q2, 2, none⟩ = some (.int .i64 s.e) := HQ2.out.cell 2
  have u3 : W3.cell? ⟨Q2, 3, none⟩ = some (.slice s.o s.l.length s.cap) := HQ2.out.cell 3
  go_wp2_with fail
  refine (billValid_any s W3 HS.out hns ht).mono ?_
  rintro _ W4 ⟨rfl, hb⟩
  replace HQ0 := Lib.hid (HQ0.out.later hb)
  replace HQ1 := Lib.hid (HQ1.out.later hb)
  replace HQ2 := Lib.hid (HQ2.out.later hb)
  replace HR := Lib.hid (HR.out.later hb)
  replace HP := Lib.hid (HP.out.later hb)
  replace HA := Lib.hid (HA.out.later hb)
  replace HC := Lib.hid (HC.out.later hb)
  replace HS := Lib.hid (HS.out.later hb)
  replace HB := Lib.hid (below_step HB.out hb)
  clear hb u0 u1 u2 u3
  obtain ⟨b3, hb3⟩ : ∃ b, sesB s = b := ⟨_, rfl⟩
  have HB3 := Lib.hid hb3
  rw [hb3] at HV ⊢
  clear hb3
  have p0 : W4.cell? ⟨P, 0, none⟩ = some (.int .i64 0) := HP.out.cell 0
  have r0 : W4.cell? ⟨R, 0, none⟩ = some (.slice none 0 0) := HR.out.cell 0
  have r1 : W4.cell? ⟨R, 1, none⟩ = some (.int .i64 0) := HR.out.cell 1
  have r2 : W4.cell? ⟨R, 2, none⟩ = some (.int .i64 0) := HR.out.cell 2
  have r3 : W4.cell? ⟨R, 3, none⟩ = some (.int .i64 0) := HR.out.cell 3
  have y0 := HR.out.frozen 0
  have y1 := HR.out.frozen 1
  have y2 := HR.out.frozen 2
  have y3 := HR.out.frozen 3
  have y4 := HP.out.frozen 0
  cases b3 with
  | false =>
    have HOK := Lib.hid (show billOk c s = false by rw [HV.out]; rfl)
    clear HQ0 HQ1 HQ2 HA HC HS
    have hne : ¬ P = R := by have := HBB.out; omega
    have hne' : ¬ R = P := by have := HBB.out; omega
    go_wp2
    have HR7 := Lib.hid (((((HR.out.set 0 (.slice none 0 0)).set 1 (.int .i64 0)).set 2 (.int .i64 0)).set 3 (.int .i64 0)).other (p := ⟨P, 0, none⟩) hne' (.int .i64 1))
    have HP7 := Lib.hid (((((HP.out.other (p := ⟨R, 0, none⟩) hne (.slice none 0 0)).other (p := ⟨R, 1, none⟩) hne (.int .i64 0)).other (p := ⟨R, 2, none⟩) hne (.int .i64 0)).other (p := ⟨R, 3, none⟩) hne (.int .i64 0)).set 0 (.int .i64 1))
    have HA7 := Lib.hid ((((((Agr.refl W4 [R, P]).set (g := R) (i := 0) (u := .slice none 0 0) (by simp)).set (g := R) (i := 1) (u := .int .i64 0) (by simp)).set (g := R) (i := 2) (u := .int .i64 0) (by simp)).set (g := R) (i := 3) (u := .int .i64 0) (by simp)).set (g := P) (i := 0) (u := .int .i64 1) (by simp))
    have HB7 := Lib.hid (HA7.out.below HB.out (by have := HBB.out; intro b hb; simp at hb; omega))
    generalize (((((W4.setCell ⟨R, 0, none⟩ (.slice none 0 0)).setCell ⟨R, 1, none⟩ (.int .i64 0)).setCell ⟨R, 2, none⟩ (.int .i64 0)).setCell ⟨R, 3, none⟩ (.int .i64 0)).setCell ⟨P, 0, none⟩ (.int .i64 1)) = w7 at HR7 HP7 HA7 HB7 ⊢
    clear p0 r0 r1 r2 r3 y0 y1 y2 y3 y4 hne hne'
    refine leaves_cons (f := 37) (args := #[.pointer (some ⟨P, 0, none⟩)]) (by simp) (by simp [go_sem]) ?_
    refine (bill_idle ⟨P, 0, none⟩ _).mono ?_
    rintro e u' w'' ⟨rfl, rfl, rfl⟩
    have r0 : w''.cell? ⟨R, 0, none⟩ = some (.slice none 0 0) := HR7.out.cell 0
    have r1 : w''.cell? ⟨R, 1, none⟩ = some (.int .i64 0) := HR7.out.cell 1
    have r2 : w''.cell? ⟨R, 2, none⟩ = some (.int .i64 0) := HR7.out.cell 2
    have r3 : w''.cell? ⟨R, 3, none⟩ = some (.int .i64 0) := HR7.out.cell 3
    have p0 : w''.cell? ⟨P, 0, none⟩ = some (.int .i64 1) := HP7.out.cell 0
    clear hmf
    simp [Leaves, settle, results, Tryz.results21, go_sem, r0, r1, r2, r3, p0]
    exact HN.out _ _ HB7.out HOK.out rfl
  | true =>
  clear p0 r0 r1 r2 r3 y0 y1 y2 y3 y4
  have q0 : W4.cell? ⟨Q0, 0, none⟩ = some (.string c.nm) := HQ0.out.cell 0
  have q1 : W4.cell? ⟨Q0, 1, none⟩ = some (.slice c.oa c.arts.length c.ca) := HQ0.out.cell 1
  have v0 : W4.cell? ⟨Q1, 0, none⟩ = some (.int .i64 c.off) := HQ1.out.cell 0
  have v1 : W4.cell? ⟨Q1, 1, none⟩ = some (.slice c.oc c.chg.length c.cc) := HQ1.out.cell 1
  have v2 : W4.cell? ⟨Q1, 2, none⟩ = some (.slice c.oh c.hol.length c.ch) := HQ1.out.cell 2
  have u0 : W4.cell? ⟨Q2, 0, none⟩ = some (.int .i64 s.f) := HQ2.out.cell 0
  have u1 : W4.cell? ⟨Q2, 1, none⟩ = some (.int .i64 s.t) := HQ2.out.cell 1
  have u2 : W4.cell? ⟨Q2, 2, none⟩ = some (.int .i64 s.e) := HQ2.out.cell 2
  have u3 : W4.cell? ⟨Q2, 3, none⟩ = some (.slice s.o s.l.length s.cap) := HQ2.out.cell 3
  go_wp2_with fail
  refine (sum_any W4 c s HA.out HC.out HS.out HB1.out HB2.out (sesB_ok HB3.out)).mono ?_
  rintro _ W5 ⟨hb, ⟨hsk, o, cap, rfl, htw⟩ | ⟨hsk, rfl⟩⟩
  · have HOK := Lib.hid (show billOk c s = true by rw [HV.out, hsk]; rfl)
    have HTW := Lib.hid htw
    have HRL := Lib.hid HR.out.lt
    have HPL := Lib.hid HP.out.lt
    have HWL := Lib.hid HB.out.size
    replace HR := Lib.hid (HR.out.later hb)
    replace HP := Lib.hid (HP.out.later hb)
    replace HB := Lib.hid (below_step HB.out hb)
    clear hb hsk htw q0 q1 v0 v1 v2 u0 u1 u2 u3 HQ0 HQ1 HQ2 HA HC HS
    obtain ⟨n, hn⟩ : ∃ n, (linA c s c.arts.length).length = n := ⟨_, rfl⟩
    obtain ⟨net, hnet⟩ : ∃ n, netB c s = n := ⟨_, rfl⟩
    obtain ⟨tax, htax⟩ : ∃ n, taxB c s = n := ⟨_, rfl⟩
    rw [hn, hnet, htax] at HY ⊢
    clear hn hnet htax
    obtain ⟨tot, htot⟩ : ∃ t, net + tax = t := ⟨_, rfl⟩
    rw [htot] at HY ⊢
    clear htot
    have p0 : W5.cell? ⟨P, 0, none⟩ = some (.int .i64 0) := HP.out.cell 0
    have r0 : W5.cell? ⟨R, 0, none⟩ = some (.slice none 0 0) := HR.out.cell 0
    have r1 : W5.cell? ⟨R, 1, none⟩ = some (.int .i64 0) := HR.out.cell 1
    have r2 : W5.cell? ⟨R, 2, none⟩ = some (.int .i64 0) := HR.out.cell 2
    have r3 : W5.cell? ⟨R, 3, none⟩ = some (.int .i64 0) := HR.out.cell 3
    have y0 := HR.out.frozen 0
    have y1 := HR.out.frozen 1
    have y2 := HR.out.frozen 2
    have y3 := HR.out.frozen 3
    have y4 := HP.out.frozen 0
    have hne : ¬ P = R := by have := HBB.out; omega
    have hne' : ¬ R = P := by have := HBB.out; omega
    go_wp2
    have HR7 := Lib.hid (((((HR.out.set 0 (.slice o n cap)).set 1 (.int .i64 net)).set 2 (.int .i64 tax)).set 3 (.int .i64 tot)).other (p := ⟨P, 0, none⟩) hne' (.int .i64 0))
    have HP7 := Lib.hid (((((HP.out.other (p := ⟨R, 0, none⟩) hne (.slice o n cap)).other (p := ⟨R, 1, none⟩) hne (.int .i64 net)).other (p := ⟨R, 2, none⟩) hne (.int .i64 tax)).other (p := ⟨R, 3, none⟩) hne (.int .i64 tot)).set 0 (.int .i64 0))
    have HA7 := Lib.hid ((((((Agr.refl W5 [R, P]).set (g := R) (i := 0) (u := .slice o n cap) (by simp)).set (g := R) (i := 1) (u := .int .i64 net) (by simp)).set (g := R) (i := 2) (u := .int .i64 tax) (by simp)).set (g := R) (i := 3) (u := .int .i64 tot) (by simp)).set (g := P) (i := 0) (u := .int .i64 0) (by simp))
    have HB7 := Lib.hid (HA7.out.below HB.out (by have := HBB.out; intro b hb; simp at hb; omega))
    have HT7 := Lib.hid (HTW.out.agr (m := w.heap.size) HA7.out (fun b hb => by have h1 := HRL.out; have h2 := HPL.out; simp at hb; rcases hb with rfl | rfl; exact h1; exact h2) HWL.out)
    generalize (((((W5.setCell ⟨R, 0, none⟩ (.slice o n cap)).setCell ⟨R, 1, none⟩ (.int .i64 net)).setCell ⟨R, 2, none⟩ (.int .i64 tax)).setCell ⟨R, 3, none⟩ (.int .i64 tot)).setCell ⟨P, 0, none⟩ (.int .i64 0)) = w7 at HR7 HP7 HA7 HB7 HT7 ⊢
    clear p0 r0 r1 r2 r3 y0 y1 y2 y3 y4 hne hne'
    refine leaves_cons (f := 37) (args := #[.pointer (some ⟨P, 0, none⟩)]) (by simp) (by simp [go_sem]) ?_
    refine (bill_idle ⟨P, 0, none⟩ _).mono ?_
    rintro e u' w'' ⟨rfl, rfl, rfl⟩
    have r0 : w''.cell? ⟨R, 0, none⟩ = some (.slice o n cap) := HR7.out.cell 0
    have r1 : w''.cell? ⟨R, 1, none⟩ = some (.int .i64 net) := HR7.out.cell 1
    have r2 : w''.cell? ⟨R, 2, none⟩ = some (.int .i64 tax) := HR7.out.cell 2
    have r3 : w''.cell? ⟨R, 3, none⟩ = some (.int .i64 tot) := HR7.out.cell 3
    have p0 : w''.cell? ⟨P, 0, none⟩ = some (.int .i64 0) := HP7.out.cell 0
    clear hmf
    simp [Leaves, settle, results, Tryz.results21, go_sem, r0, r1, r2, r3, p0]
    exact HY.out _ _ _ HB7.out HOK.out HT7.out
  · have HOK := Lib.hid (show billOk c s = false by rw [HV.out, hsk]; rfl)
    replace HR := Lib.hid (HR.out.later hb)
    replace HP := Lib.hid (HP.out.later hb)
    replace HB := Lib.hid (below_step HB.out hb)
    clear hb hsk q0 q1 v0 v1 v2 u0 u1 u2 u3 HQ0 HQ1 HQ2 HA HC HS
    have hne' : ¬ R = P := by have := HBB.out; omega
    go_wp2
    refine leaves_cons (f := 37) (args := #[.pointer (some ⟨P, 0, none⟩)]) (by simp) (by simp [go_sem]) ?_
    refine (bill_panic P 0 3 [] W5 (HP.out.cell 0) (HP.out.frozen 0)).mono ?_
    rintro e u' w'' ⟨rfl, rfl, hw''⟩
    have HR7 := Lib.hid (show Blk w'' R 39 #[.slice none 0 0, .int .i64 0, .int .i64 0, .int .i64 0] by rw [hw'']; exact (HR.out.other (p := ⟨P, 0, none⟩) hne' _).alloc _)
    have HP7 := Lib.hid (show Blk w'' P 46 #[.int .i64 3] by rw [hw'']; exact (HP.out.set 0 _).alloc _)
    have HB7 := Lib.hid (show Below w.heap.size w w'' by rw [hw'']; exact below_alloc (HB.out.setCell (p := ⟨P, 0, none⟩) (by have := HBB.out; simp only; omega) _) _)
    clear hw''
    have r0 : w''.cell? ⟨R, 0, none⟩ = some (.slice none 0 0) := HR7.out.cell 0
    have r1 : w''.cell? ⟨R, 1, none⟩ = some (.int .i64 0) := HR7.out.cell 1
    have r2 : w''.cell? ⟨R, 2, none⟩ = some (.int .i64 0) := HR7.out.cell 2
    have r3 : w''.cell? ⟨R, 3, none⟩ = some (.int .i64 0) := HR7.out.cell 3
    have p0 : w''.cell? ⟨P, 0, none⟩ = some (.int .i64 3) := HP7.out.cell 0
    clear hmf
    simp [Leaves, settle, results, Tryz.results21, go_sem, r0, r1, r2, r3, p0]
    exact HN.out _ _ HB7.out HOK.out rfl
end Go.Proofs.YtkfmmiekajgdjaaGreat