/- TopDisputed: the law's walk. -/
import Derived.Test.YtkfmmiekajgdjaaGreatHd43
import Derived.Test.YtkfmmiekajgdjaaGreatFx43
import Derived.Test.YtkfmmiekajgdjaaGreatDp43
namespace Go.Proofs.YtkfmmiekajgdjaaGreat
open Go.RowKit
attribute [local go_sem] Oper.semAt_some

set_option maxRecDepth 100000 in
set_option maxHeartbeats 16000000 in
theorem topDisputed_any (w : World) (c : ClA) (i which q y : Nat) (hs : c.seed < 18446744073709551616) (hA : Arts w c.oa c.arts) (hT : Twos w c.oc c.chg) (hI : Ints w c.oh c.hol) (hR : Rds w c.od c.rds) (hS : Twos w c.s.o c.s.l) (hL : Twos w c.b.o c.b.l) (hi : i < 256) (hw : which < 256) (hq : q < 256) (hy : y < 256) : Calls Tryz.prog 4 #[.agg (clL c).toArray, .int .u8 (i : Nat), .int .u8 (which : Nat), .int .u8 (q : Nat), .int .u8 (y : Nat)] w (Ret (.bool true) w) := by
  have HCM := Lib.hid (show FewC c → ClM w c from fun h => ⟨hA, hT, hI, hR, hS, hL, hs, by have := h.1.1; omega, by have := h.1.2.1; omega, by have := h.1.2.2.1; omega, by have := h.1.2.2.2.1; omega, by have := h.2.1; omega, by have := h.1.2.2.2.2; omega, by have := h.2.2; omega⟩)
  clear hA hT hI hR hS hL
  have E0 : IntKind.u64.wrap ((y : Int) * 2 ^ (8 * (q % 8))) = ((dOf q y : Nat) : Int) := by
    have := dOf_lt (q := q) hy
    have e : (y : Int) * 2 ^ (8 * (q % 8)) = ((dOf q y : Nat) : Int) := by unfold dOf; push_cast; rfl
    rw [e, IntKind.wrap_u64]
    omega
  have E1 := Lib.hid (show wrap64 (IntKind.u64.wrap ((y : Int) * 2 ^ (8 * (q % 8)))) = IntKind.i64.wrap ((dOf q y : Nat) : Int) by rw [E0, IntWalk.i64_left])
  clear E0
  go_enter Tryz.func4, Tryz.ntmps4
  go_upto_region 1 with (fail)
  obtain ⟨W1, hW1⟩ : ∃ W, W = w.alloc (.cells (clL c).toArray 41) := ⟨_, rfl⟩
  have HQ := Lib.hid (show Blk W1 w.heap.size 41 (clL c).toArray by rw [hW1]; exact Blk.new _ _ _)
  have HB := Lib.hid (show Below w.heap.size w W1 by rw [hW1]; exact below_alloc (Below.refl _ _) _)
  rw [← hW1]
  clear hW1
  go_wp2_with fail
  refine (head_any W1).mono ?_
  rintro _ W2 ⟨rfl, hb⟩
  replace HB := Lib.hid (below_step HB.out hb)
  replace HQ := Lib.hid (HQ.out.later hb)
  clear hb
  have q0 : W2.cell? ⟨w.heap.size, 0, none⟩ = some (.string c.nm) := HQ.out.cell 0
  have q1 : W2.cell? ⟨w.heap.size, 1, none⟩ = some (.slice c.oa c.arts.length c.ca) := HQ.out.cell 1
  have q2 : W2.cell? ⟨w.heap.size, 2, none⟩ = some (.int .i64 c.off) := HQ.out.cell 2
  have q3 : W2.cell? ⟨w.heap.size, 3, none⟩ = some (.slice c.oc c.chg.length c.cc) := HQ.out.cell 3
  have q4 : W2.cell? ⟨w.heap.size, 4, none⟩ = some (.slice c.oh c.hol.length c.ch) := HQ.out.cell 4
  have q5 : W2.cell? ⟨w.heap.size, 5, none⟩ = some (.slice c.od c.rds.length c.cd) := HQ.out.cell 5
  have q6 : W2.cell? ⟨w.heap.size, 6, none⟩ = some (.int .u64 (c.seed : Nat)) := HQ.out.cell 6
  have q7 : W2.cell? ⟨w.heap.size, 7, none⟩ = some (.int .i64 c.s.f) := HQ.out.cell 7
  have q8 : W2.cell? ⟨w.heap.size, 8, none⟩ = some (.int .i64 c.s.t) := HQ.out.cell 8
  have q9 : W2.cell? ⟨w.heap.size, 9, none⟩ = some (.int .i64 c.s.e) := HQ.out.cell 9
  have q10 : W2.cell? ⟨w.heap.size, 10, none⟩ = some (.slice c.s.o c.s.l.length c.s.cap) := HQ.out.cell 10
  have q11 : W2.cell? ⟨w.heap.size, 11, none⟩ = some (.slice c.b.o c.b.l.length c.b.cap) := HQ.out.cell 11
  have q12 : W2.cell? ⟨w.heap.size, 12, none⟩ = some (.int .i64 c.b.net) := HQ.out.cell 12
  have q13 : W2.cell? ⟨w.heap.size, 13, none⟩ = some (.int .i64 c.b.tax) := HQ.out.cell 13
  have q14 : W2.cell? ⟨w.heap.size, 14, none⟩ = some (.int .i64 c.b.tot) := HQ.out.cell 14
  have HFW := Lib.hid (few43_any c W2)
  go_wp2_with fail
  refine HFW.out.mono ?_
  rintro _ W3 ⟨⟨b, rfl, hfew⟩, hb⟩
  replace HB := Lib.hid (below_step HB.out hb)
  replace HQ := Lib.hid (HQ.out.later hb)
  clear hb HFW q0 q1 q2 q3 q4 q5 q6 q7 q8 q9 q10 q11 q12 q13 q14
  cases b with
  | false =>
    go_wp2
    go_ret
    exact ⟨rfl, HB.out⟩
  | true =>
  have HCL := Lib.hid (HCM.out (hfew rfl))
  clear hfew HCM
  by_cases hy0 : y = 0
  · have hy0' : (y : Int) = 0 := by omega
    go_wp2
    go_ret
    exact ⟨rfl, HB.out⟩
  have hyb : ((y : Int) == 0) = false := by rw [beq_eq_false_iff_ne]; omega
  have q0 : W3.cell? ⟨w.heap.size, 0, none⟩ = some (.string c.nm) := HQ.out.cell 0
  have q1 : W3.cell? ⟨w.heap.size, 1, none⟩ = some (.slice c.oa c.arts.length c.ca) := HQ.out.cell 1
  have q2 : W3.cell? ⟨w.heap.size, 2, none⟩ = some (.int .i64 c.off) := HQ.out.cell 2
  have q3 : W3.cell? ⟨w.heap.size, 3, none⟩ = some (.slice c.oc c.chg.length c.cc) := HQ.out.cell 3
  have q4 : W3.cell? ⟨w.heap.size, 4, none⟩ = some (.slice c.oh c.hol.length c.ch) := HQ.out.cell 4
  have q5 : W3.cell? ⟨w.heap.size, 5, none⟩ = some (.slice c.od c.rds.length c.cd) := HQ.out.cell 5
  have q6 : W3.cell? ⟨w.heap.size, 6, none⟩ = some (.int .u64 (c.seed : Nat)) := HQ.out.cell 6
  have q7 : W3.cell? ⟨w.heap.size, 7, none⟩ = some (.int .i64 c.s.f) := HQ.out.cell 7
  have q8 : W3.cell? ⟨w.heap.size, 8, none⟩ = some (.int .i64 c.s.t) := HQ.out.cell 8
  have q9 : W3.cell? ⟨w.heap.size, 9, none⟩ = some (.int .i64 c.s.e) := HQ.out.cell 9
  have q10 : W3.cell? ⟨w.heap.size, 10, none⟩ = some (.slice c.s.o c.s.l.length c.s.cap) := HQ.out.cell 10
  have q11 : W3.cell? ⟨w.heap.size, 11, none⟩ = some (.slice c.b.o c.b.l.length c.b.cap) := HQ.out.cell 11
  have q12 : W3.cell? ⟨w.heap.size, 12, none⟩ = some (.int .i64 c.b.net) := HQ.out.cell 12
  have q13 : W3.cell? ⟨w.heap.size, 13, none⟩ = some (.int .i64 c.b.tax) := HQ.out.cell 13
  have q14 : W3.cell? ⟨w.heap.size, 14, none⟩ = some (.int .i64 c.b.tot) := HQ.out.cell 14
  have HV := Lib.hid (verify_any c W3 (HCL.out.later HB.out))
  go_wp2_with fail
  refine HV.out.mono ?_
  rintro _ W4 ⟨rfl, hb⟩
  replace HB := Lib.hid (below_step HB.out hb)
  replace HQ := Lib.hid (HQ.out.later hb)
  clear hb HV q0 q1 q2 q3 q4 q5 q6 q7 q8 q9 q10 q11 q12 q13 q14
  by_cases hv : verA c = 0
  rotate_left
  · have hvb : (verA c != 0) = true := by simpa using hv
    go_wp2
    go_ret
    exact ⟨rfl, HB.out⟩
  have HVER := Lib.hid hv
  rw [hv]
  clear hv
  have q5 : W4.cell? ⟨w.heap.size, 5, none⟩ = some (.slice c.od c.rds.length c.cd) := HQ.out.cell 5
  by_cases h0 : c.rds.length = 0
  · have h0' : (c.rds.length : Int) = 0 := by omega
    go_wp2
    go_ret
    exact ⟨rfl, HB.out⟩
  have h0b : ((c.rds.length : Int) == 0) = false := by rw [beq_eq_false_iff_ne]; omega
  obtain ⟨k, hk⟩ : ∃ k, i % c.rds.length = k := ⟨_, rfl⟩
  have hkl : k < c.rds.length := by rw [← hk]; exact Nat.mod_lt _ (by omega)
  have HP := Lib.hid (show (i : Int) % (c.rds.length : Int) = (k : Int) by rw [← hk]; simp)
  clear hk
  have HDI := Lib.hid (disputed (wh := which % 4) (q := q) hs HVER.out hkl hy (Nat.pos_of_ne_zero hy0))
  have HNE := Lib.hid (chg_ne (x := getR c.rds k) (wh := which % 4) (q := q) hy (Nat.pos_of_ne_zero hy0))
  have HFC := Lib.hid (flat_chg hkl (which % 4) q y (by omega))
  obtain ⟨b, off, hbo, _⟩ := HCL.out.rds k hkl
  have HRD := Lib.hid HCL.out.rds
  have HRD2 : Hid (Rds w (some ⟨b, off, none⟩) c.rds) := Lib.hid (by rw [← hbo]; exact HRD.out)
  have HF := Lib.hid (flat_cells (HRD2.out.later (below_alloc HB.out (.cells #[] 55))))
  rw [hbo] at q5
  clear hbo
  have q5a : ∀ o, (W4.alloc o).cell? ⟨w.heap.size, 5, none⟩ = some (.slice (some ⟨b, off, none⟩) c.rds.length c.cd) := fun o => cell_kept (below_alloc (Below.refl _ _) o) q5
  have HN := Lib.hid (show 0 + c.rds.length ≤ 1000000000 by have := HDI.out.2.1; omega)
  have HL := Lib.hid (flat_length c.rds)
  have HO := Lib.hid (show ∀ u ∈ flat c.rds, u.oneCell' = true from fun u hu => flat_one' hu)
  have HRW := Lib.hid (Row.lit (w2 := W4) (wr := W4) (e := 55) (size := 5) (Below.refl _ _) #[] 0 (by decide) rfl)
  have q1 : (0 : Int) < (c.rds.length : Int) := by omega
  go_wp2_with (at_builtin; refine wp_appendN (news := flat c.rds) elemRd HRW.out HN.out (by decide) HL.out HO.out HF.out rfl _ _ rfl rfl rfl ?_)
  intro v3 w3 hrow
  obtain ⟨g, cp, rfl, hg, _⟩ := hrow.some_of (by omega)
  have HR3 := Lib.hid hrow
  have HQ4 := Lib.hid HQ.out.lt
  replace HQ := Lib.hid (HQ.out.later hrow.below)
  clear hrow HF HN HL HO HRW q5 q5a
  go_upto_region 6 with (fail)
  rw [HP.out]
  obtain ⟨b', off', hbo2, hx⟩ := HR3.out.rds k hkl
  cases hbo2
  rw [Nat.zero_add] at hx
  obtain ⟨x, hxe⟩ : ∃ x, getR c.rds k = x := ⟨_, rfl⟩
  rw [hxe] at hx HDI HNE HFC
  have y1 : (0 : Int) ≤ (k : Int) := by omega
  have y2 : (k : Int) < (c.rds.length : Int) := by omega
  obtain ⟨c0, c1, c2, c3, c4⟩ := hx
  clear c4
  have hgq : ¬ g = w.heap.size := by have := HQ4.out; omega
  rcases (by omega : which % 4 = 0 ∨ which % 4 = 1 ∨ which % 4 = 2 ∨ which % 4 = 3) with hwh | hwh | hwh | hwh
  · have h5 : (which : Int) % 4 = 0 := by omega
    rw [hwh] at HDI HNE HFC
    replace HFC : Hid ((flat c.rds).set (k * 5 + 0) (.int .i64 (bits .xor .i64 x.s (wrap64 (IntKind.u64.wrap ((y : Int) * 2 ^ (8 * (q % 8))))))) = flat (c.rds.set k (chg x 0 q y))) := Lib.hid (by
      have := HFC.out
      simp only [if_true] at this
      rw [E1.out]
      exact this)
    obtain ⟨z, hz⟩ : ∃ z, chg x 0 q y = z := ⟨_, rfl⟩
    rw [hz] at HDI HNE HFC
    clear hz
    have f0 : w3.frozen? ⟨g, k * 5, none⟩ = false := HR3.out.frozenAt _
    go_upto_region 15 with (fail)
    obtain ⟨W5, hW5⟩ : ∃ W, W = w3.setCell ⟨g, k * 5, none⟩ (.int .i64 (bits .xor .i64 x.s (wrap64 (IntKind.u64.wrap ((y : Int) * 2 ^ (8 * (q % 8))))))) := ⟨_, rfl⟩
    have HQ5 : Hid (Blk W5 w.heap.size 41 (clL c).toArray) := Lib.hid (by rw [hW5]; exact HQ.out.other (p := ⟨g, k * 5, none⟩) (fun e => hgq e.symm) _)
    have HR5 : Hid (Row W4 W5 55 5 (.slice (some ⟨g, 0, none⟩) c.rds.length cp) c.rds.length (flat (c.rds.set k z))) := Lib.hid (by rw [hW5, ← HFC.out]; exact HR3.out.stored (k * 5 + 0) _)
    rw [← hW5]
    clear hW5 f0 c0 c1 c2 c3 HQ HR3 E1 HFC
    have HB5 := Lib.hid (below_step HB.out HR5.out.below)
    have hln : (c.rds.set k z).length = c.rds.length := List.length_set ..
    have HLN := Lib.hid hln
    clear hln
    have HRL := Lib.hid (fun W (h : Row W4 W 55 5 (.slice (some ⟨g, 0, none⟩) c.rds.length cp) c.rds.length (flat (c.rds.set k z))) => Row.rds (l := c.rds.set k z) (by rw [HLN.out]; exact h))
    have HDS := Lib.hid (dispute_at c.od (some ⟨g, 0, none⟩) c.cd cp c.rds (c.rds.set k z) c.rds.length k W5 (HRD.out.later HB5.out) (HRL.out _ HR5.out) rfl HLN.out HDI.out.2.1 hkl (fun j hj => getR_set_ne hj) (by rw [getR_set_self hkl, hxe]; exact HNE.out))
    have q5 : W5.cell? ⟨w.heap.size, 5, none⟩ = some (.slice c.od c.rds.length c.cd) := HQ5.out.cell 5
    go_wp2_with fail
    refine HDS.out.mono ?_
    rintro _ W6 ⟨rfl, hb⟩
    replace HR5 := Lib.hid (HR5.out.later hb)
    replace HQ5 := Lib.hid (HQ5.out.later hb)
    clear hb q5 HDS HB5
    have HCK := Lib.hid (Check_any c.seed (some ⟨g, 0, none⟩) cp (c.rds.set k z) W6 hs (HRL.out _ HR5.out) (by rw [HLN.out]; exact Nat.le_trans HDI.out.2.1 (by decide)))
    rw [HLN.out, HDI.out.1] at HCK
    have q6 : W6.cell? ⟨w.heap.size, 6, none⟩ = some (.int .u64 (c.seed : Nat)) := HQ5.out.cell 6
    go_wp2_with fail
    refine HCK.out.mono ?_
    rintro _ W7 ⟨rfl, hb⟩
    replace HR5 := Lib.hid (HR5.out.later hb)
    replace HQ5 := Lib.hid (HQ5.out.later hb)
    clear hb q6 HCK
    have q5 : W7.cell? ⟨w.heap.size, 5, none⟩ = some (.slice c.od c.rds.length c.cd) := HQ5.out.cell 5
    have z5 := HQ5.out.frozen 5
    go_upto_region 18 with (fail)
    have hgr : g ≠ w.heap.size := hgq
    obtain ⟨W8, hW8⟩ : ∃ W, W = W7.setCell ⟨w.heap.size, 5, none⟩ (.slice (some ⟨g, 0, none⟩) c.rds.length cp) := ⟨_, rfl⟩
    have HQ8 : Hid (Blk W8 w.heap.size 41 #[.string c.nm, .slice c.oa c.arts.length c.ca, .int .i64 c.off, .slice c.oc c.chg.length c.cc, .slice c.oh c.hol.length c.ch, .slice (some ⟨g, 0, none⟩) c.rds.length cp, .int .u64 (c.seed : Nat), .int .i64 c.s.f, .int .i64 c.s.t, .int .i64 c.s.e, .slice c.s.o c.s.l.length c.s.cap, .slice c.b.o c.b.l.length c.b.cap, .int .i64 c.b.net, .int .i64 c.b.tax, .int .i64 c.b.tot]) := Lib.hid (by rw [hW8]; exact HQ5.out.set 5 _)
    have HA8 := Lib.hid (show Agr W7 W8 [w.heap.size] by rw [hW8]; exact agr_set)
    rw [← hW8]
    clear hW8 q5 z5
    have HB7 := Lib.hid (below_step HB.out HR5.out.below)
    have HB8 := Lib.hid (HA8.out.below HB7.out (fun b hb => by rw [List.mem_singleton.1 hb]; exact Nat.le_refl _))
    have HRF : Hid (Rds W8 (some ⟨g, 0, none⟩) (c.rds.set k z)) := Lib.hid ((HRL.out _ HR5.out).agr HA8.out (fun hm => hgr (List.mem_singleton.1 hm)))
    have HC8 : Hid (ClM W8 { c with od := some ⟨g, 0, none⟩, cd := cp, rds := c.rds.set k z }) := Lib.hid (by
      have h := HCL.out.later HB8.out
      exact ⟨h.arts, h.chg, h.hol, HRF.out, h.sls, h.lns, h.seed, h.nm, h.na, h.nc, h.nh, by show (c.rds.set k z).length ≤ _; rw [HLN.out]; exact h.nr, h.ns, h.nl⟩)
    have HV8 := Lib.hid (verify_any { c with od := some ⟨g, 0, none⟩, cd := cp, rds := c.rds.set k z } W8 HC8.out)
    rw [HDI.out.2.2] at HV8
    replace HV8 : Hid (Calls Tryz.prog 10 #[.agg #[.string c.nm, .slice c.oa c.arts.length c.ca, .int .i64 c.off, .slice c.oc c.chg.length c.cc, .slice c.oh c.hol.length c.ch, .slice (some ⟨g, 0, none⟩) c.rds.length cp, .int .u64 (c.seed : Nat), .int .i64 c.s.f, .int .i64 c.s.t, .int .i64 c.s.e, .slice c.s.o c.s.l.length c.s.cap, .slice c.b.o c.b.l.length c.b.cap, .int .i64 c.b.net, .int .i64 c.b.tax, .int .i64 c.b.tot]] W8 (Ret (.int .i64 1) W8)) := Lib.hid (by rw [← HLN.out]; exact HV8.out)
    have q0 : W8.cell? ⟨w.heap.size, 0, none⟩ = some (.string c.nm) := HQ8.out.cell 0
    have q1 : W8.cell? ⟨w.heap.size, 1, none⟩ = some (.slice c.oa c.arts.length c.ca) := HQ8.out.cell 1
    have q2 : W8.cell? ⟨w.heap.size, 2, none⟩ = some (.int .i64 c.off) := HQ8.out.cell 2
    have q3 : W8.cell? ⟨w.heap.size, 3, none⟩ = some (.slice c.oc c.chg.length c.cc) := HQ8.out.cell 3
    have q4 : W8.cell? ⟨w.heap.size, 4, none⟩ = some (.slice c.oh c.hol.length c.ch) := HQ8.out.cell 4
    have q5 : W8.cell? ⟨w.heap.size, 5, none⟩ = some (.slice (some ⟨g, 0, none⟩) c.rds.length cp) := HQ8.out.cell 5
    have q6 : W8.cell? ⟨w.heap.size, 6, none⟩ = some (.int .u64 (c.seed : Nat)) := HQ8.out.cell 6
    have q7 : W8.cell? ⟨w.heap.size, 7, none⟩ = some (.int .i64 c.s.f) := HQ8.out.cell 7
    have q8 : W8.cell? ⟨w.heap.size, 8, none⟩ = some (.int .i64 c.s.t) := HQ8.out.cell 8
    have q9 : W8.cell? ⟨w.heap.size, 9, none⟩ = some (.int .i64 c.s.e) := HQ8.out.cell 9
    have q10 : W8.cell? ⟨w.heap.size, 10, none⟩ = some (.slice c.s.o c.s.l.length c.s.cap) := HQ8.out.cell 10
    have q11 : W8.cell? ⟨w.heap.size, 11, none⟩ = some (.slice c.b.o c.b.l.length c.b.cap) := HQ8.out.cell 11
    have q12 : W8.cell? ⟨w.heap.size, 12, none⟩ = some (.int .i64 c.b.net) := HQ8.out.cell 12
    have q13 : W8.cell? ⟨w.heap.size, 13, none⟩ = some (.int .i64 c.b.tax) := HQ8.out.cell 13
    have q14 : W8.cell? ⟨w.heap.size, 14, none⟩ = some (.int .i64 c.b.tot) := HQ8.out.cell 14
    clear HC8 HRF HA8 HB7 HQ5 HR5 HRL
    go_wp2_with fail
    refine HV8.out.mono ?_
    rintro _ W9 ⟨rfl, hb⟩
    have HB9 := Lib.hid (below_step HB8.out hb)
    clear hb q0 q1 q2 q3 q4 q5 q6 q7 q8 q9 q10 q11 q12 q13 q14
    go_wp2
    go_ret
    exact ⟨rfl, HB9.out⟩
  · have h5 : (which : Int) % 4 = 1 := by omega
    rw [hwh] at HDI HNE HFC
    replace HFC : Hid ((flat c.rds).set (k * 5 + 1) (.int .i64 (bits .xor .i64 x.n (wrap64 (IntKind.u64.wrap ((y : Int) * 2 ^ (8 * (q % 8))))))) = flat (c.rds.set k (chg x 1 q y))) := Lib.hid (by
      have := HFC.out
      simp only [(by decide : ¬ (1 : Nat) = 0), if_true, if_false] at this
      rw [E1.out]
      exact this)
    obtain ⟨z, hz⟩ : ∃ z, chg x 1 q y = z := ⟨_, rfl⟩
    rw [hz] at HDI HNE HFC
    clear hz
    have f1 : w3.frozen? ⟨g, k * 5 + 1, none⟩ = false := HR3.out.frozenAt _
    go_upto_region 15 with (fail)
    obtain ⟨W5, hW5⟩ : ∃ W, W = w3.setCell ⟨g, k * 5 + 1, none⟩ (.int .i64 (bits .xor .i64 x.n (wrap64 (IntKind.u64.wrap ((y : Int) * 2 ^ (8 * (q % 8))))))) := ⟨_, rfl⟩
    have HQ5 : Hid (Blk W5 w.heap.size 41 (clL c).toArray) := Lib.hid (by rw [hW5]; exact HQ.out.other (p := ⟨g, k * 5 + 1, none⟩) (fun e => hgq e.symm) _)
    have HR5 : Hid (Row W4 W5 55 5 (.slice (some ⟨g, 0, none⟩) c.rds.length cp) c.rds.length (flat (c.rds.set k z))) := Lib.hid (by rw [hW5, ← HFC.out]; exact HR3.out.stored (k * 5 + 1) _)
    rw [← hW5]
    clear hW5 f1 c0 c1 c2 c3 HQ HR3 E1 HFC
    have HB5 := Lib.hid (below_step HB.out HR5.out.below)
    have hln : (c.rds.set k z).length = c.rds.length := List.length_set ..
    have HLN := Lib.hid hln
    clear hln
    have HRL := Lib.hid (fun W (h : Row W4 W 55 5 (.slice (some ⟨g, 0, none⟩) c.rds.length cp) c.rds.length (flat (c.rds.set k z))) => Row.rds (l := c.rds.set k z) (by rw [HLN.out]; exact h))
    have HDS := Lib.hid (dispute_at c.od (some ⟨g, 0, none⟩) c.cd cp c.rds (c.rds.set k z) c.rds.length k W5 (HRD.out.later HB5.out) (HRL.out _ HR5.out) rfl HLN.out HDI.out.2.1 hkl (fun j hj => getR_set_ne hj) (by rw [getR_set_self hkl, hxe]; exact HNE.out))
    have q5 : W5.cell? ⟨w.heap.size, 5, none⟩ = some (.slice c.od c.rds.length c.cd) := HQ5.out.cell 5
    go_wp2_with fail
    refine HDS.out.mono ?_
    rintro _ W6 ⟨rfl, hb⟩
    replace HR5 := Lib.hid (HR5.out.later hb)
    replace HQ5 := Lib.hid (HQ5.out.later hb)
    clear hb q5 HDS HB5
    have HCK := Lib.hid (Check_any c.seed (some ⟨g, 0, none⟩) cp (c.rds.set k z) W6 hs (HRL.out _ HR5.out) (by rw [HLN.out]; exact Nat.le_trans HDI.out.2.1 (by decide)))
    rw [HLN.out, HDI.out.1] at HCK
    have q6 : W6.cell? ⟨w.heap.size, 6, none⟩ = some (.int .u64 (c.seed : Nat)) := HQ5.out.cell 6
    go_wp2_with fail
    refine HCK.out.mono ?_
    rintro _ W7 ⟨rfl, hb⟩
    replace HR5 := Lib.hid (HR5.out.later hb)
    replace HQ5 := Lib.hid (HQ5.out.later hb)
    clear hb q6 HCK
    have q5 : W7.cell? ⟨w.heap.size, 5, none⟩ = some (.slice c.od c.rds.length c.cd) := HQ5.out.cell 5
    have z5 := HQ5.out.frozen 5
    go_upto_region 18 with (fail)
    have hgr : g ≠ w.heap.size := hgq
    obtain ⟨W8, hW8⟩ : ∃ W, W = W7.setCell ⟨w.heap.size, 5, none⟩ (.slice (some ⟨g, 0, none⟩) c.rds.length cp) := ⟨_, rfl⟩
    have HQ8 : Hid (Blk W8 w.heap.size 41 #[.string c.nm, .slice c.oa c.arts.length c.ca, .int .i64 c.off, .slice c.oc c.chg.length c.cc, .slice c.oh c.hol.length c.ch, .slice (some ⟨g, 0, none⟩) c.rds.length cp, .int .u64 (c.seed : Nat), .int .i64 c.s.f, .int .i64 c.s.t, .int .i64 c.s.e, .slice c.s.o c.s.l.length c.s.cap, .slice c.b.o c.b.l.length c.b.cap, .int .i64 c.b.net, .int .i64 c.b.tax, .int .i64 c.b.tot]) := Lib.hid (by rw [hW8]; exact HQ5.out.set 5 _)
    have HA8 := Lib.hid (show Agr W7 W8 [w.heap.size] by rw [hW8]; exact agr_set)
    rw [← hW8]
    clear hW8 q5 z5
    have HB7 := Lib.hid (below_step HB.out HR5.out.below)
    have HB8 := Lib.hid (HA8.out.below HB7.out (fun b hb => by rw [List.mem_singleton.1 hb]; exact Nat.le_refl _))
    have HRF : Hid (Rds W8 (some ⟨g, 0, none⟩) (c.rds.set k z)) := Lib.hid ((HRL.out _ HR5.out).agr HA8.out (fun hm => hgr (List.mem_singleton.1 hm)))
    have HC8 : Hid (ClM W8 { c with od := some ⟨g, 0, none⟩, cd := cp, rds := c.rds.set k z }) := Lib.hid (by
      have h := HCL.out.later HB8.out
      exact ⟨h.arts, h.chg, h.hol, HRF.out, h.sls, h.lns, h.seed, h.nm, h.na, h.nc, h.nh, by show (c.rds.set k z).length ≤ _; rw [HLN.out]; exact h.nr, h.ns, h.nl⟩)
    have HV8 := Lib.hid (verify_any { c with od := some ⟨g, 0, none⟩, cd := cp, rds := c.rds.set k z } W8 HC8.out)
    rw [HDI.out.2.2] at HV8
    replace HV8 : Hid (Calls Tryz.prog 10 #[.agg #[.string c.nm, .slice c.oa c.arts.length c.ca, .int .i64 c.off, .slice c.oc c.chg.length c.cc, .slice c.oh c.hol.length c.ch, .slice (some ⟨g, 0, none⟩) c.rds.length cp, .int .u64 (c.seed : Nat), .int .i64 c.s.f, .int .i64 c.s.t, .int .i64 c.s.e, .slice c.s.o c.s.l.length c.s.cap, .slice c.b.o c.b.l.length c.b.cap, .int .i64 c.b.net, .int .i64 c.b.tax, .int .i64 c.b.tot]] W8 (Ret (.int .i64 1) W8)) := Lib.hid (by rw [← HLN.out]; exact HV8.out)
    have q0 : W8.cell? ⟨w.heap.size, 0, none⟩ = some (.string c.nm) := HQ8.out.cell 0
    have q1 : W8.cell? ⟨w.heap.size, 1, none⟩ = some (.slice c.oa c.arts.length c.ca) := HQ8.out.cell 1
    have q2 : W8.cell? ⟨w.heap.size, 2, none⟩ = some (.int .i64 c.off) := HQ8.out.cell 2
    have q3 : W8.cell? ⟨w.heap.size, 3, none⟩ = some (.slice c.oc c.chg.length c.cc) := HQ8.out.cell 3
    have q4 : W8.cell? ⟨w.heap.size, 4, none⟩ = some (.slice c.oh c.hol.length c.ch) := HQ8.out.cell 4
    have q5 : W8.cell? ⟨w.heap.size, 5, none⟩ = some (.slice (some ⟨g, 0, none⟩) c.rds.length cp) := HQ8.out.cell 5
    have q6 : W8.cell? ⟨w.heap.size, 6, none⟩ = some (.int .u64 (c.seed : Nat)) := HQ8.out.cell 6
    have q7 : W8.cell? ⟨w.heap.size, 7, none⟩ = some (.int .i64 c.s.f) := HQ8.out.cell 7
    have q8 : W8.cell? ⟨w.heap.size, 8, none⟩ = some (.int .i64 c.s.t) := HQ8.out.cell 8
    have q9 : W8.cell? ⟨w.heap.size, 9, none⟩ = some (.int .i64 c.s.e) := HQ8.out.cell 9
    have q10 : W8.cell? ⟨w.heap.size, 10, none⟩ = some (.slice c.s.o c.s.l.length c.s.cap) := HQ8.out.cell 10
    have q11 : W8.cell? ⟨w.heap.size, 11, none⟩ = some (.slice c.b.o c.b.l.length c.b.cap) := HQ8.out.cell 11
    have q12 : W8.cell? ⟨w.heap.size, 12, none⟩ = some (.int .i64 c.b.net) := HQ8.out.cell 12
    have q13 : W8.cell? ⟨w.heap.size, 13, none⟩ = some (.int .i64 c.b.tax) := HQ8.out.cell 13
    have q14 : W8.cell? ⟨w.heap.size, 14, none⟩ = some (.int .i64 c.b.tot) := HQ8.out.cell 14
    clear HC8 HRF HA8 HB7 HQ5 HR5 HRL
    go_wp2_with fail
    refine HV8.out.mono ?_
    rintro _ W9 ⟨rfl, hb⟩
    have HB9 := Lib.hid (below_step HB8.out hb)
    clear hb q0 q1 q2 q3 q4 q5 q6 q7 q8 q9 q10 q11 q12 q13 q14
    go_wp2
    go_ret
    exact ⟨rfl, HB9.out⟩
  · have h5 : (which : Int) % 4 = 2 := by omega
    rw [hwh] at HDI HNE HFC
    replace HFC : Hid ((flat c.rds).set (k * 5 + 2) (.int .i64 (bits .xor .i64 x.m (wrap64 (IntKind.u64.wrap ((y : Int) * 2 ^ (8 * (q % 8))))))) = flat (c.rds.set k (chg x 2 q y))) := Lib.hid (by
      have := HFC.out
      simp only [(by decide : ¬ (2 : Nat) = 0), (by decide : ¬ (2 : Nat) = 1), if_true, if_false] at this
      rw [E1.out]
      exact this)
    obtain ⟨z, hz⟩ : ∃ z, chg x 2 q y = z := ⟨_, rfl⟩
    rw [hz] at HDI HNE HFC
    clear hz
    have f2 : w3.frozen? ⟨g, k * 5 + 2, none⟩ = false := HR3.out.frozenAt _
    go_upto_region 15 with (fail)
    obtain ⟨W5, hW5⟩ : ∃ W, W = w3.setCell ⟨g, k * 5 + 2, none⟩ (.int .i64 (bits .xor .i64 x.m (wrap64 (IntKind.u64.wrap ((y : Int) * 2 ^ (8 * (q % 8))))))) := ⟨_, rfl⟩
    have HQ5 : Hid (Blk W5 w.heap.size 41 (clL c).toArray) := Lib.hid (by rw [hW5]; exact HQ.out.other (p := ⟨g, k * 5 + 2, none⟩) (fun e => hgq e.symm) _)
    have HR5 : Hid (Row W4 W5 55 5 (.slice (some ⟨g, 0, none⟩) c.rds.length cp) c.rds.length (flat (c.rds.set k z))) := Lib.hid (by rw [hW5, ← HFC.out]; exact HR3.out.stored (k * 5 + 2) _)
    rw [← hW5]
    clear hW5 f2 c0 c1 c2 c3 HQ HR3 E1 HFC
    have HB5 := Lib.hid (below_step HB.out HR5.out.below)
    have hln : (c.rds.set k z).length = c.rds.length := List.length_set ..
    have HLN := Lib.hid hln
    clear hln
    have HRL := Lib.hid (fun W (h : Row W4 W 55 5 (.slice (some ⟨g, 0, none⟩) c.rds.length cp) c.rds.length (flat (c.rds.set k z))) => Row.rds (l := c.rds.set k z) (by rw [HLN.out]; exact h))
    have HDS := Lib.hid (dispute_at c.od (some ⟨g, 0, none⟩) c.cd cp c.rds (c.rds.set k z) c.rds.length k W5 (HRD.out.later HB5.out) (HRL.out _ HR5.out) rfl HLN.out HDI.out.2.1 hkl (fun j hj => getR_set_ne hj) (by rw [getR_set_self hkl, hxe]; exact HNE.out))
    have q5 : W5.cell? ⟨w.heap.size, 5, none⟩ = some (.slice c.od c.rds.length c.cd) := HQ5.out.cell 5
    go_wp2_with fail
    refine HDS.out.mono ?_
    rintro _ W6 ⟨rfl, hb⟩
    replace HR5 := Lib.hid (HR5.out.later hb)
    replace HQ5 := Lib.hid (HQ5.out.later hb)
    clear hb q5 HDS HB5
    have HCK := Lib.hid (Check_any c.seed (some ⟨g, 0, none⟩) cp (c.rds.set k z) W6 hs (HRL.out _ HR5.out) (by rw [HLN.out]; exact Nat.le_trans HDI.out.2.1 (by decide)))
    rw [HLN.out, HDI.out.1] at HCK
    have q6 : W6.cell? ⟨w.heap.size, 6, none⟩ = some (.int .u64 (c.seed : Nat)) := HQ5.out.cell 6
    go_wp2_with fail
    refine HCK.out.mono ?_
    rintro _ W7 ⟨rfl, hb⟩
    replace HR5 := Lib.hid (HR5.out.later hb)
    replace HQ5 := Lib.hid (HQ5.out.later hb)
    clear hb q6 HCK
    have q5 : W7.cell? ⟨w.heap.size, 5, none⟩ = some (.slice c.od c.rds.length c.cd) := HQ5.out.cell 5
    have z5 := HQ5.out.frozen 5
    go_upto_region 18 with (fail)
    have hgr : g ≠ w.heap.size := hgq
    obtain ⟨W8, hW8⟩ : ∃ W, W = W7.setCell ⟨w.heap.size, 5, none⟩ (.slice (some ⟨g, 0, none⟩) c.rds.length cp) := ⟨_, rfl⟩
    have HQ8 : Hid (Blk W8 w.heap.size 41 #[.string c.nm, .slice c.oa c.arts.length c.ca, .int .i64 c.off, .slice c.oc c.chg.length c.cc, .slice c.oh c.hol.length c.ch, .slice (some ⟨g, 0, none⟩) c.rds.length cp, .int .u64 (c.seed : Nat), .int .i64 c.s.f, .int .i64 c.s.t, .int .i64 c.s.e, .slice c.s.o c.s.l.length c.s.cap, .slice c.b.o c.b.l.length c.b.cap, .int .i64 c.b.net, .int .i64 c.b.tax, .int .i64 c.b.tot]) := Lib.hid (by rw [hW8]; exact HQ5.out.set 5 _)
    have HA8 := Lib.hid (show Agr W7 W8 [w.heap.size] by rw [hW8]; exact agr_set)
    rw [← hW8]
    clear hW8 q5 z5
    have HB7 := Lib.hid (below_step HB.out HR5.out.below)
    have HB8 := Lib.hid (HA8.out.below HB7.out (fun b hb => by rw [List.mem_singleton.1 hb]; exact Nat.le_refl _))
    have HRF : Hid (Rds W8 (some ⟨g, 0, none⟩) (c.rds.set k z)) := Lib.hid ((HRL.out _ HR5.out).agr HA8.out (fun hm => hgr (List.mem_singleton.1 hm)))
    have HC8 : Hid (ClM W8 { c with od := some ⟨g, 0, none⟩, cd := cp, rds := c.rds.set k z }) := Lib.hid (by
      have h := HCL.out.later HB8.out
      exact ⟨h.arts, h.chg, h.hol, HRF.out, h.sls, h.lns, h.seed, h.nm, h.na, h.nc, h.nh, by show (c.rds.set k z).length ≤ _; rw [HLN.out]; exact h.nr, h.ns, h.nl⟩)
    have HV8 := Lib.hid (verify_any { c with od := some ⟨g, 0, none⟩, cd := cp, rds := c.rds.set k z } W8 HC8.out)
    rw [HDI.out.2.2] at HV8
    replace HV8 : Hid (Calls Tryz.prog 10 #[.agg #[.string c.nm, .slice c.oa c.arts.length c.ca, .int .i64 c.off, .slice c.oc c.chg.length c.cc, .slice c.oh c.hol.length c.ch, .slice (some ⟨g, 0, none⟩) c.rds.length cp, .int .u64 (c.seed : Nat), .int .i64 c.s.f, .int .i64 c.s.t, .int .i64 c.s.e, .slice c.s.o c.s.l.length c.s.cap, .slice c.b.o c.b.l.length c.b.cap, .int .i64 c.b.net, .int .i64 c.b.tax, .int .i64 c.b.tot]] W8 (Ret (.int .i64 1) W8)) := Lib.hid (by rw [← HLN.out]; exact HV8.out)
    have q0 : W8.cell? ⟨w.heap.size, 0, none⟩ = some (.string c.nm) := HQ8.out.cell 0
    have q1 : W8.cell? ⟨w.heap.size, 1, none⟩ = some (.slice c.oa c.arts.length c.ca) := HQ8.out.cell 1
    have q2 : W8.cell? ⟨w.heap.size, 2, none⟩ = some (.int .i64 c.off) := HQ8.out.cell 2
    have q3 : W8.cell? ⟨w.heap.size, 3, none⟩ = some (.slice c.oc c.chg.length c.cc) := HQ8.out.cell 3
    have q4 : W8.cell? ⟨w.heap.size, 4, none⟩ = some (.slice c.oh c.hol.length c.ch) := HQ8.out.cell 4
    have q5 : W8.cell? ⟨w.heap.size, 5, none⟩ = some (.slice (some ⟨g, 0, none⟩) c.rds.length cp) := HQ8.out.cell 5
    have q6 : W8.cell? ⟨w.heap.size, 6, none⟩ = some (.int .u64 (c.seed : Nat)) := HQ8.out.cell 6
    have q7 : W8.cell? ⟨w.heap.size, 7, none⟩ = some (.int .i64 c.s.f) := HQ8.out.cell 7
    have q8 : W8.cell? ⟨w.heap.size, 8, none⟩ = some (.int .i64 c.s.t) := HQ8.out.cell 8
    have q9 : W8.cell? ⟨w.heap.size, 9, none⟩ = some (.int .i64 c.s.e) := HQ8.out.cell 9
    have q10 : W8.cell? ⟨w.heap.size, 10, none⟩ = some (.slice c.s.o c.s.l.length c.s.cap) := HQ8.out.cell 10
    have q11 : W8.cell? ⟨w.heap.size, 11, none⟩ = some (.slice c.b.o c.b.l.length c.b.cap) := HQ8.out.cell 11
    have q12 : W8.cell? ⟨w.heap.size, 12, none⟩ = some (.int .i64 c.b.net) := HQ8.out.cell 12
    have q13 : W8.cell? ⟨w.heap.size, 13, none⟩ = some (.int .i64 c.b.tax) := HQ8.out.cell 13
    have q14 : W8.cell? ⟨w.heap.size, 14, none⟩ = some (.int .i64 c.b.tot) := HQ8.out.cell 14
    clear HC8 HRF HA8 HB7 HQ5 HR5 HRL
    go_wp2_with fail
    refine HV8.out.mono ?_
    rintro _ W9 ⟨rfl, hb⟩
    have HB9 := Lib.hid (below_step HB8.out hb)
    clear hb q0 q1 q2 q3 q4 q5 q6 q7 q8 q9 q10 q11 q12 q13 q14
    go_wp2
    go_ret
    exact ⟨rfl, HB9.out⟩
  · have h5 : (which : Int) % 4 = 3 := by omega
    rw [hwh] at HDI HNE HFC
    replace HFC : Hid ((flat c.rds).set (k * 5 + 3) (.int .i64 (bits .xor .i64 x.r (wrap64 (IntKind.u64.wrap ((y : Int) * 2 ^ (8 * (q % 8))))))) = flat (c.rds.set k (chg x 3 q y))) := Lib.hid (by
      have := HFC.out
      simp only [(by decide : ¬ (3 : Nat) = 0), (by decide : ¬ (3 : Nat) = 1), (by decide : ¬ (3 : Nat) = 2), if_false] at this
      rw [E1.out]
      exact this)
    obtain ⟨z, hz⟩ : ∃ z, chg x 3 q y = z := ⟨_, rfl⟩
    rw [hz] at HDI HNE HFC
    clear hz
    have f3 : w3.frozen? ⟨g, k * 5 + 3, none⟩ = false := HR3.out.frozenAt _
    go_upto_region 15 with (fail)
    obtain ⟨W5, hW5⟩ : ∃ W, W = w3.setCell ⟨g, k * 5 + 3, none⟩ (.int .i64 (bits .xor .i64 x.r (wrap64 (IntKind.u64.wrap ((y : Int) * 2 ^ (8 * (q % 8))))))) := ⟨_, rfl⟩
    have HQ5 : Hid (Blk W5 w.heap.size 41 (clL c).toArray) := Lib.hid (by rw [hW5]; exact HQ.out.other (p := ⟨g, k * 5 + 3, none⟩) (fun e => hgq e.symm) _)
    have HR5 : Hid (Row W4 W5 55 5 (.slice (some ⟨g, 0, none⟩) c.rds.length cp) c.rds.length (flat (c.rds.set k z))) := Lib.hid (by rw [hW5, ← HFC.out]; exact HR3.out.stored (k * 5 + 3) _)
    rw [← hW5]
    clear hW5 f3 c0 c1 c2 c3 HQ HR3 E1 HFC
    have HB5 := Lib.hid (below_step HB.out HR5.out.below)
    have hln : (c.rds.set k z).length = c.rds.length := List.length_set ..
    have HLN := Lib.hid hln
    clear hln
    have HRL := Lib.hid (fun W (h : Row W4 W 55 5 (.slice (some ⟨g, 0, none⟩) c.rds.length cp) c.rds.length (flat (c.rds.set k z))) => Row.rds (l := c.rds.set k z) (by rw [HLN.out]; exact h))
    have HDS := Lib.hid (dispute_at c.od (some ⟨g, 0, none⟩) c.cd cp c.rds (c.rds.set k z) c.rds.length k W5 (HRD.out.later HB5.out) (HRL.out _ HR5.out) rfl HLN.out HDI.out.2.1 hkl (fun j hj => getR_set_ne hj) (by rw [getR_set_self hkl, hxe]; exact HNE.out))
    have q5 : W5.cell? ⟨w.heap.size, 5, none⟩ = some (.slice c.od c.rds.length c.cd) := HQ5.out.cell 5
    go_wp2_with fail
    refine HDS.out.mono ?_
    rintro _ W6 ⟨rfl, hb⟩
    replace HR5 := Lib.hid (HR5.out.later hb)
    replace HQ5 := Lib.hid (HQ5.out.later hb)
    clear hb q5 HDS HB5
    have HCK := Lib.hid (Check_any c.seed (some ⟨g, 0, none⟩) cp (c.rds.set k z) W6 hs (HRL.out _ HR5.out) (by rw [HLN.out]; exact Nat.le_trans HDI.out.2.1 (by decide)))
    rw [HLN.out, HDI.out.1] at HCK
    have q6 : W6.cell? ⟨w.heap.size, 6, none⟩ = some (.int .u64 (c.seed : Nat)) := HQ5.out.cell 6
    go_wp2_with fail
    refine HCK.out.mono ?_
    rintro _ W7 ⟨rfl, hb⟩
    replace HR5 := Lib.hid (HR5.out.later hb)
    replace HQ5 := Lib.hid (HQ5.out.later hb)
    clear hb q6 HCK
    have q5 : W7.cell? ⟨w.heap.size, 5, none⟩ = some (.slice c.od c.rds.length c.cd) := HQ5.out.cell 5
    have z5 := HQ5.out.frozen 5
    go_upto_region 18 with (fail)
    have hgr : g ≠ w.heap.size := hgq
    obtain ⟨W8, hW8⟩ : ∃ W, W = W7.setCell ⟨w.heap.size, 5, none⟩ (.slice (some ⟨g, 0, none⟩) c.rds.length cp) := ⟨_, rfl⟩
    have HQ8 : Hid (Blk W8 w.heap.size 41 #[.string c.nm, .slice c.oa c.arts.length c.ca, .int .i64 c.off, .slice c.oc c.chg.length c.cc, .slice c.oh c.hol.length c.ch, .slice (some ⟨g, 0, none⟩) c.rds.length cp, .int .u64 (c.seed : Nat), .int .i64 c.s.f, .int .i64 c.s.t, .int .i64 c.s.e, .slice c.s.o c.s.l.length c.s.cap, .slice c.b.o c.b.l.length c.b.cap, .int .i64 c.b.net, .int .i64 c.b.tax, .int .i64 c.b.tot]) := Lib.hid (by rw [hW8]; exact HQ5.out.set 5 _)
    have HA8 := Lib.hid (show Agr W7 W8 [w.heap.size] by rw [hW8]; exact agr_set)
    rw [← hW8]
    clear hW8 q5 z5
    have HB7 := Lib.hid (below_step HB.out HR5.out.below)
    have HB8 := Lib.hid (HA8.out.below HB7.out (fun b hb => by rw [List.mem_singleton.1 hb]; exact Nat.le_refl _))
    have HRF : Hid (Rds W8 (some ⟨g, 0, none⟩) (c.rds.set k z)) := Lib.hid ((HRL.out _ HR5.out).agr HA8.out (fun hm => hgr (List.mem_singleton.1 hm)))
    have HC8 : Hid (ClM W8 { c with od := some ⟨g, 0, none⟩, cd := cp, rds := c.rds.set k z }) := Lib.hid (by
      have h := HCL.out.later HB8.out
      exact ⟨h.arts, h.chg, h.hol, HRF.out, h.sls, h.lns, h.seed, h.nm, h.na, h.nc, h.nh, by show (c.rds.set k z).length ≤ _; rw [HLN.out]; exact h.nr, h.ns, h.nl⟩)
    have HV8 := Lib.hid (verify_any { c with od := some ⟨g, 0, none⟩, cd := cp, rds := c.rds.set k z } W8 HC8.out)
    rw [HDI.out.2.2] at HV8
    replace HV8 : Hid (Calls Tryz.prog 10 #[.agg #[.string c.nm, .slice c.oa c.arts.length c.ca, .int .i64 c.off, .slice c.oc c.chg.length c.cc, .slice c.oh c.hol.length c.ch, .slice (some ⟨g, 0, none⟩) c.rds.length cp, .int .u64 (c.seed : Nat), .int .i64 c.s.f, .int .i64 c.s.t, .int .i64 c.s.e, .slice c.s.o c.s.l.length c.s.cap, .slice c.b.o c.b.l.length c.b.cap, .int .i64 c.b.net, .int .i64 c.b.tax, .int .i64 c.b.tot]] W8 (Ret (.int .i64 1) W8)) := Lib.hid (by rw [← HLN.out]; exact HV8.out)
    have q0 : W8.cell? ⟨w.heap.size, 0, none⟩ = some (.string c.nm) := HQ8.out.cell 0
    have q1 : W8.cell? ⟨w.heap.size, 1, none⟩ = some (.slice c.oa c.arts.length c.ca) := HQ8.out.cell 1
    have q2 : W8.cell? ⟨w.heap.size, 2, none⟩ = some (.int .i64 c.off) := HQ8.out.cell 2
    have q3 : W8.cell? ⟨w.heap.size, 3, none⟩ = some (.slice c.oc c.chg.length c.cc) := HQ8.out.cell 3
    have q4 : W8.cell? ⟨w.heap.size, 4, none⟩ = some (.slice c.oh c.hol.length c.ch) := HQ8.out.cell 4
    have q5 : W8.cell? ⟨w.heap.size, 5, none⟩ = some (.slice (some ⟨g, 0, none⟩) c.rds.length cp) := HQ8.out.cell 5
    have q6 : W8.cell? ⟨w.heap.size, 6, none⟩ = some (.int .u64 (c.seed : Nat)) := HQ8.out.cell 6
    have q7 : W8.cell? ⟨w.heap.size, 7, none⟩ = some (.int .i64 c.s.f) := HQ8.out.cell 7
    have q8 : W8.cell? ⟨w.heap.size, 8, none⟩ = some (.int .i64 c.s.t) := HQ8.out.cell 8
    have q9 : W8.cell? ⟨w.heap.size, 9, none⟩ = some (.int .i64 c.s.e) := HQ8.out.cell 9
    have q10 : W8.cell? ⟨w.heap.size, 10, none⟩ = some (.slice c.s.o c.s.l.length c.s.cap) := HQ8.out.cell 10
    have q11 : W8.cell? ⟨w.heap.size, 11, none⟩ = some (.slice c.b.o c.b.l.length c.b.cap) := HQ8.out.cell 11
    have q12 : W8.cell? ⟨w.heap.size, 12, none⟩ = some (.int .i64 c.b.net) := HQ8.out.cell 12
    have q13 : W8.cell? ⟨w.heap.size, 13, none⟩ = some (.int .i64 c.b.tax) := HQ8.out.cell 13
    have q14 : W8.cell? ⟨w.heap.size, 14, none⟩ = some (.int .i64 c.b.tot) := HQ8.out.cell 14
    clear HC8 HRF HA8 HB7 HQ5 HR5 HRL
    go_wp2_with fail
    refine HV8.out.mono ?_
    rintro _ W9 ⟨rfl, hb⟩
    have HB9 := Lib.hid (below_step HB8.out hb)
    clear hb q0 q1 q2 q3 q4 q5 q6 q7 q8 q9 q10 q11 q12 q13 q14
    go_wp2
    go_ret
    exact ⟨rfl, HB9.out⟩
end Go.Proofs.YtkfmmiekajgdjaaGreat