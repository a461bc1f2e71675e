/- Chapter 26: DaysHolidays, walked. -/
import Derived.Test.YtgjnekfmnepjeaaWi26
import Derived.Test.YtgjnekfmnepjeaaGrowN
import Derived.Test.YtgjnekfmnepjeaaPlainE26
import Derived.Deep.Cut
namespace Go.Proofs.Ytgjnekfmnepjeaa
open Go.RowKit

theorem elemInt : ElemI Try.prog 23 3 1 8 := ElemI.of (by kernel_rfl) (by kernel_rfl) (by decide)

set_option maxHeartbeats 8000000 in
theorem DaysHolidays_any (o a b : Int) (oc oh : Option Addr) (kc kh : Nat) (cs : List (Int × Int)) (hs : List Int) (w : World) (hc : Twos w oc cs) (hh : Ints w oh hs) (a0 : 0 ≤ a) (a1 : a < 65536) (b0 : 0 ≤ b) (b1 : b < 65536) :
    Calls Try.prog 8 #[calV o oc cs.length kc oh hs.length kh, .int .u16 a, .int .u16 b] w (Ret (.bool true) w) := by
  have HC := Lib.hid hc
  have HH := Lib.hid hh
  obtain ⟨q, hq⟩ : ∃ q, validCal o cs hs = q := ⟨_, rfl⟩
  have HQ := Lib.hid hq
  obtain ⟨h, hh'⟩ : ∃ h, a.tmod 36501 = h := ⟨_, rfl⟩
  have hhe : a % 36501 = h := by rw [← hh', Int.tmod_eq_emod_of_nonneg a0]
  obtain ⟨r, hr⟩ : ∃ r, b.tmod 36503 = r := ⟨_, rfl⟩
  have hre : b % 36503 = r := by rw [← hr, Int.tmod_eq_emod_of_nonneg b0]
  obtain ⟨d, hd⟩ : ∃ d, r - 1 = d := ⟨_, rfl⟩
  have hhb : 0 ≤ h ∧ h ≤ 36500 := by omega
  have hdb : -1 ≤ d ∧ d ≤ 36501 := by omega
  have e1 : IntKind.i64.wrap a = a := IntWalk.i64_in _ (by omega)
  have e2 : IntKind.i64.wrap h = h := IntWalk.i64_in _ (by omega)
  have e3 : IntKind.i64.wrap b = b := IntWalk.i64_in _ (by omega)
  have e4 : IntKind.i64.wrap r = r := IntWalk.i64_in _ (by omega)
  have e5 : IntKind.i64.wrap d = d := IntWalk.i64_in _ (by omega)
  clear hc hh hq hhe hre
  go_enter Try.func8, Try.ntmps8
  go_wp2_with fail
  refine (head_any _).mono ?_
  rintro e w1 ⟨rfl, hb⟩
  have HX := Lib.hid ((Box3.new ..).later hb)
  clear hb
  have c0 := HX.out.c0
  have c1 := HX.out.c1
  have c2 := HX.out.c2
  go_wp2_with fail
  refine (usable_any o oc oh kc kh cs hs _ (HC.out.later HX.out.below) (HH.out.later HX.out.below)).mono ?_
  rintro e wm ⟨rfl, hb⟩
  rw [HQ.out]
  replace HX := Lib.hid (HX.out.later hb)
  clear hb c0 c1 c2 e1 e2 e3 e4 e5 hr hd hh'
  cases q with
  | false =>
    go_wp2
    go_ret
    exact ⟨rfl, HX.out.below⟩
  | true =>
    obtain ⟨v1, v2, v3, v4, v5, v6⟩ := valid_parts HQ.out
    have HV6 := Lib.hid v6
    clear v3 v4 v5 v6
    obtain ⟨L, hL⟩ : ∃ L, insU h hs = L := ⟨_, rfl⟩
    have HL := Lib.hid hL
    clear hL
    have HG0 := Lib.hid (Grow.new wm 3 1 25 #[.int .i64 o, .slice oc cs.length kc, .slice none 0 0])
    have c0 := HX.out.c0
    have c1 := HX.out.c1
    have c2 := HX.out.c2
    have k2 := (HX.out.later HG0.out.below).c2
    go_wp2
    clear c0 c1 c2 k2
    go_loopw [11, 37] (fun u i wr => ∃ (k : Nat) (dn : Bool) (v : Value) (xs : List Int), k ≤ hs.length ∧ i = .int .i64 k ∧ u = .bool dn ∧ insTo h xs dn (hs.drop k) = L ∧ xs.length ≤ k + (if dn then 1 else 0) ∧ Grow wm wr 3 1 25 #[.int .i64 o, .slice oc cs.length kc, v] v xs.length (xs.map (Value.int .i64 ·))) (fun _ i _ => hs.length - (intOf i).toNat)
    case atStart => exact ⟨0, false, _, [], Nat.zero_le _, rfl, rfl, by rw [← HL.out]; rfl, by simp, HG0.out⟩
    case round =>
      obtain ⟨k, dn, v, xs, hk, rfl, rfl, hins, hxl, hg⟩ := hrel
      have hx3 : xs.length ≤ k + 1 := by cases dn <;> simp at hxl <;> omega
      have HXL := Lib.hid hxl
      have HI := Lib.hid hins
      have HG := Lib.hid hg
      clear hxl hins hg HG0
      by_cases hlt : k < hs.length
      · obtain ⟨g, off, hgo, g1⟩ := (HH.out.later (below_step HX.out.below HG.out.below)) k hlt
        subst hgo
        obtain ⟨x, hx⟩ : ∃ x, hs.getD k 0 = x := ⟨_, rfl⟩
        rw [hx] at g1
        have HD := Lib.hid (drop_getD hs k hlt 0)
        rw [hx] at HD
        clear hx
        have z1 : (0 : Int) ≤ (k : Int) := by omega
        have z2 : (k : Int) < (hs.length : Int) := by omega
        by_cases t : h ≤ x
        · cases dn with
          | true =>
            by_cases ts : x = h
            · have tsb : (x == h) = true := by simpa using ts
              have HN := Lib.hid (show insTo h xs true (hs.drop (k + 1)) = L by rw [← HI.out, HD.out, insTo_same ts])
              subst ts
              clear tsb
              go_wp2
              go_roundw
              case rel => exact ⟨k + 1, true, v, xs, by omega, by go_num, rfl, HN.out, by have hxl := HXL.out; simp at hxl ⊢; omega, HG.out⟩
              case measure => simp [intOf]; omega
            · have tsb : (x == h) = false := by simpa using ts
              have tsb2 : (x != h) = true := by rw [bne, tsb]; rfl
              have HN := Lib.hid (show insTo h (xs ++ [x]) true (hs.drop (k + 1)) = L by rw [← HI.out, HD.out, insTo_other ts])
              clear ts
              have HNHA := Lib.hid (show (xs).length + 1 ≤ 1000000000 by simp; omega)
              have ccHA : wr.cell? ⟨wm.heap.size, 2, none⟩ = some _ := HG.out.blk.cell 2
              have HSZHA := Lib.hid (show wr.heap.size = wr.heap.size by rfl)
              go_wp2_with (at_builtin; refine wp_append1G (news := [.int .i64 x]) elemInt HG.out HNHA.out (by decide) rfl (oneI x) rfl _ _ rfl rfl HSZHA.out rfl ?_)
              clear ccHA
              intro vvHA w3 hggHA
              obtain ⟨gHA, kHA, rfl, _, _⟩ := hggHA.row.some_of (by omega)
              have hfrHA := hggHA.blk.frozen 2
              have hceHA : w3.cell? ⟨wm.heap.size, 2, none⟩ = some _ := hggHA.blk.cell 2
              have HA := Lib.hid ((hggHA.store 2 (.slice (some ⟨gHA, 0, none⟩) (xs.length + 1) kHA)).cast (cs' := #[.int .i64 o, .slice oc cs.length kc, .slice (some ⟨gHA, 0, none⟩) (xs.length + 1) kHA]) (n' := (xs ++ [x]).length) (xs' := (xs ++ [x]).map (Value.int .i64 ·)) (by simp) (by simp) (by simp))
              clear hggHA
              go_wp2
              go_roundw
              case rel => exact ⟨k + 1, true, _, xs ++ [x], by omega, by go_num, rfl, HN.out, by have hxl := HXL.out; simp at hxl ⊢; omega, HA.out⟩
              case measure => simp [intOf]; omega
          | false =>
            by_cases ts : x = h
            · have HN := Lib.hid (show insTo h (xs ++ [h]) true (hs.drop (k + 1)) = L by rw [← HI.out, HD.out, insTo_put t, insTo_same ts])
              subst ts
              have HNHA := Lib.hid (show (xs).length + 1 ≤ 1000000000 by simp; omega)
              have ccHA : wr.cell? ⟨wm.heap.size, 2, none⟩ = some _ := HG.out.blk.cell 2
              have HSZHA := Lib.hid (show wr.heap.size = wr.heap.size by rfl)
              go_wp2_with (at_builtin; refine wp_append1G (news := [.int .i64 x]) elemInt HG.out HNHA.out (by decide) rfl (oneI x) rfl _ _ rfl rfl HSZHA.out rfl ?_)
              clear ccHA
              intro vvHA w3 hggHA
              obtain ⟨gHA, kHA, rfl, _, _⟩ := hggHA.row.some_of (by omega)
              have hfrHA := hggHA.blk.frozen 2
              have hceHA : w3.cell? ⟨wm.heap.size, 2, none⟩ = some _ := hggHA.blk.cell 2
              have HA := Lib.hid ((hggHA.store 2 (.slice (some ⟨gHA, 0, none⟩) (xs.length + 1) kHA)).cast (cs' := #[.int .i64 o, .slice oc cs.length kc, .slice (some ⟨gHA, 0, none⟩) (xs.length + 1) kHA]) (n' := (xs ++ [x]).length) (xs' := (xs ++ [x]).map (Value.int .i64 ·)) (by simp) (by simp) (by simp))
              clear hggHA
              go_wp2
              go_roundw
              case rel => exact ⟨k + 1, true, _, xs ++ [x], by omega, by go_num, rfl, HN.out, by have hxl := HXL.out; simp at hxl ⊢; omega, HA.out⟩
              case measure => simp [intOf]; omega
            · have tsb : (x == h) = false := by simpa using ts
              have tsb2 : (x != h) = true := by rw [bne, tsb]; rfl
              have HN := Lib.hid (show insTo h (xs ++ [h] ++ [x]) true (hs.drop (k + 1)) = L by rw [← HI.out, HD.out, insTo_put t, insTo_other ts])
              clear ts
              have HNHA := Lib.hid (show (xs).length + 1 ≤ 1000000000 by simp; omega)
              have ccHA : wr.cell? ⟨wm.heap.size, 2, none⟩ = some _ := HG.out.blk.cell 2
              have HSZHA := Lib.hid (show wr.heap.size = wr.heap.size by rfl)
              go_wp2_with (at_builtin; refine wp_append1G (news := [.int .i64 h]) elemInt HG.out HNHA.out (by decide) rfl (oneI h) rfl _ _ rfl rfl HSZHA.out rfl ?_)
              clear ccHA
              intro vvHA w3 hggHA
              obtain ⟨gHA, kHA, rfl, _, _⟩ := hggHA.row.some_of (by omega)
              have hfrHA := hggHA.blk.frozen 2
              have hceHA : w3.cell? ⟨wm.heap.size, 2, none⟩ = some _ := hggHA.blk.cell 2
              have HA := Lib.hid ((hggHA.store 2 (.slice (some ⟨gHA, 0, none⟩) (xs.length + 1) kHA)).cast (cs' := #[.int .i64 o, .slice oc cs.length kc, .slice (some ⟨gHA, 0, none⟩) (xs.length + 1) kHA]) (n' := (xs ++ [h]).length) (xs' := (xs ++ [h]).map (Value.int .i64 ·)) (by simp) (by simp) (by simp))
              clear hggHA
              have HNHB := Lib.hid (show ((xs ++ [h])).length + 1 ≤ 1000000000 by simp; omega)
              have ccHB : (w3.setCell ⟨wm.heap.size, 2, none⟩ (.slice (some ⟨gHA, 0, none⟩) (xs.length + 1) kHA)).cell? ⟨wm.heap.size, 2, none⟩ = some _ := HA.out.blk.cell 2
              have HSZHB := Lib.hid (show w3.heap.size = (w3.setCell ⟨wm.heap.size, 2, none⟩ (.slice (some ⟨gHA, 0, none⟩) (xs.length + 1) kHA)).heap.size by simp)
              go_wp2_with (at_builtin; refine wp_append1G (news := [.int .i64 x]) elemInt HA.out HNHB.out (by decide) rfl (oneI x) rfl _ _ rfl rfl HSZHB.out rfl ?_)
              clear ccHB
              intro vvHB w4 hggHB
              obtain ⟨gHB, kHB, rfl, _, _⟩ := hggHB.row.some_of (by omega)
              have hfrHB := hggHB.blk.frozen 2
              have hceHB : w4.cell? ⟨wm.heap.size, 2, none⟩ = some _ := hggHB.blk.cell 2
              have HB := Lib.hid ((hggHB.store 2 (.slice (some ⟨gHB, 0, none⟩) (xs.length + 1 + 1) kHB)).cast (cs' := #[.int .i64 o, .slice oc cs.length kc, .slice (some ⟨gHB, 0, none⟩) (xs.length + 1 + 1) kHB]) (n' := ((xs ++ [h]) ++ [x]).length) (xs' := ((xs ++ [h]) ++ [x]).map (Value.int .i64 ·)) (by simp) (by simp) (by simp))
              clear hggHB
              go_wp2
              go_roundw
              case rel => exact ⟨k + 1, true, _, xs ++ [h] ++ [x], by omega, by go_num, rfl, HN.out, by have hxl := HXL.out; simp at hxl ⊢; omega, HB.out⟩
              case measure => simp [intOf]; omega
        · have ts : x ≠ h := by omega
          have tsb : (x == h) = false := by simpa using ts
          have tsb2 : (x != h) = true := by rw [bne, tsb]; rfl
          have HN := Lib.hid (show insTo h (xs ++ [x]) dn (hs.drop (k + 1)) = L by rw [← HI.out, HD.out, insTo_low t])
          have tb : decide (h ≤ x) = false := by simpa using t
          clear ts
          have HNHA := Lib.hid (show (xs).length + 1 ≤ 1000000000 by simp; omega)
          have ccHA : wr.cell? ⟨wm.heap.size, 2, none⟩ = some _ := HG.out.blk.cell 2
          have HSZHA := Lib.hid (show wr.heap.size = wr.heap.size by rfl)
          go_wp2_with (at_builtin; refine wp_append1G (news := [.int .i64 x]) elemInt HG.out HNHA.out (by decide) rfl (oneI x) rfl _ _ rfl rfl HSZHA.out rfl ?_)
          clear ccHA
          intro vvHA w3 hggHA
          obtain ⟨gHA, kHA, rfl, _, _⟩ := hggHA.row.some_of (by omega)
          have hfrHA := hggHA.blk.frozen 2
          have hceHA : w3.cell? ⟨wm.heap.size, 2, none⟩ = some _ := hggHA.blk.cell 2
          have HA := Lib.hid ((hggHA.store 2 (.slice (some ⟨gHA, 0, none⟩) (xs.length + 1) kHA)).cast (cs' := #[.int .i64 o, .slice oc cs.length kc, .slice (some ⟨gHA, 0, none⟩) (xs.length + 1) kHA]) (n' := (xs ++ [x]).length) (xs' := (xs ++ [x]).map (Value.int .i64 ·)) (by simp) (by simp) (by simp))
          clear hggHA
          go_wp2
          go_roundw
          case rel => exact ⟨k + 1, dn, _, xs ++ [x], by omega, by go_num, rfl, HN.out, by have hxl := HXL.out; (cases dn <;> simp at hxl ⊢ <;> omega), HA.out⟩
          case measure => simp [intOf]; omega
      · obtain rfl : k = hs.length := by omega
        rw [List.drop_length] at HI
        cases dn with
        | true =>
          have HLL := Lib.hid (show xs = L by rw [← HI.out, insTo_end])
          have hpos : 0 < xs.length := by rw [HLL.out, ← HL.out]; exact insU_pos
          obtain ⟨gF, kF, hvF, _, _⟩ := HG.out.row.some_of hpos
          subst hvF
          go_upto_region 19 with (fail)
          have HF := Lib.hid (HG.out.cast (n' := L.length) (xs' := L.map (Value.int .i64 ·)) (cs' := #[.int .i64 o, .slice oc cs.length kc, .slice (some ⟨gF, 0, none⟩) L.length kF]) (by rw [← HLL.out]) (by rw [HLL.out]) (by rw [HLL.out]))
          have HLN := Lib.hid (show xs.length = L.length by rw [← HLL.out])
          have HIN := Lib.hid (show Ints (wr) (some ⟨gF, 0, none⟩) L from HF.out.row.ints'' HLN.out rfl)
          have HTW := Lib.hid (HC.out.later (below_step HX.out.below HF.out.below))
          have HHW := Lib.hid (HH.out.later (below_step HX.out.below HF.out.below))
          have HBF := Lib.hid (below_step HX.out.below HF.out.below)
          have HXF := Lib.hid (HX.out.later HF.out.below)
          have HBL := Lib.hid HF.out.blk
          clear HF
          obtain ⟨WF, hWF⟩ : ∃ WF, wr = WF := ⟨_, rfl⟩
          rw [hWF] at HIN HTW HHW HBF HXF HBL ⊢
          clear hWF
          have b0 : WF.cell? ⟨wm.heap.size, 0, none⟩ = some (.int .i64 o) := HBL.out.cell 0
          have b1 : WF.cell? ⟨wm.heap.size, 1, none⟩ = some (.slice oc cs.length kc) := HBL.out.cell 1
          have b2 : WF.cell? ⟨wm.heap.size, 2, none⟩ = some (.slice (some ⟨gF, 0, none⟩) (xs.length) kF) := by have hb := HBL.out.cell 2; rw [← HLN.out] at hb; exact hb
          rw [HLN.out] at b2
          have hv2 : hs.length ≤ 32 := v2
          by_cases h32 : 32 < L.length
          · have hd32 : decide ((32 : Int) < (L.length : Int)) = true := by simp; omega
            have HVF := Lib.hid (show validCal o cs L = false from valid_h (by omega))
            go_wp2_with fail
            clear b0 b1 b2
            refine (valid_any o oc (some ⟨gF, 0, none⟩) kc kF cs L WF HTW.out HIN.out).mono ?_
            rintro e w6 ⟨rfl, hb6⟩
            rw [HVF.out]
            have HB6 := Lib.hid (below_step HBF.out hb6)
            clear hb6
            go_wp2
            go_ret
            exact ⟨rfl, HB6.out⟩
          · have hd32 : decide ((32 : Int) < (L.length : Int)) = false := by simp; omega
            have HVT := Lib.hid (show validCal o cs L = true from valid_more HQ.out (by omega) (by rw [← HL.out]; exact insU_incr (by omega) HV6.out (by omega)))
            have HT1 := Lib.hid (typeV_ok (o := o) (cs := cs) (hs := L) (d := h) (by rw [HVT.out, Bool.true_and]; exact band_iff.2 (by omega)))
            have HT2 := Lib.hid (typeV_ok (o := o) (cs := cs) (hs := hs) (d := d) (by rw [HQ.out, Bool.true_and]; exact band_iff.2 (by omega)))
            have HT3 := Lib.hid (typeV_ok (o := o) (cs := cs) (hs := L) (d := d) (by rw [HVT.out, Bool.true_and]; exact band_iff.2 (by omega)))
            have HC1 := Lib.hid (show L.contains h = true by rw [← HL.out]; exact insU_self)
            have HC2 := Lib.hid (fun hne : d ≠ h => show L.contains d = hs.contains d by rw [← HL.out]; exact insU_has hne)
            rw [if_pos HC1.out] at HT1
            obtain ⟨t2, ht2⟩ : ∃ t2, (if hs.contains d then (2 : Int) else weekOf (d % 7)) = t2 := ⟨_, rfl⟩
            obtain ⟨t3, ht3⟩ : ∃ t3, (if L.contains d then (2 : Int) else weekOf (d % 7)) = t3 := ⟨_, rfl⟩
            have HEQ := Lib.hid (fun hne : d ≠ h => show t2 = t3 by rw [← ht2, ← ht3, HC2.out hne])
            rw [ht2] at HT2
            rw [ht3] at HT3
            clear ht2 ht3 HC1 HC2 HVT
            go_wp2_with fail
            clear b0 b1 b2
            refine (type_any o h oc (some ⟨gF, 0, none⟩) kc kF cs L WF HTW.out HIN.out).mono ?_
            rintro e w6 ⟨rfl, hb6⟩
            rw [HT1.out]
            have HB6 := Lib.hid hb6
            clear hb6
            have x0 := (HXF.out.later HB6.out).c0
            have x1 := (HXF.out.later HB6.out).c1
            have x2 := (HXF.out.later HB6.out).c2
            go_wp2_with fail
            clear x0 x1 x2
            refine (type_any o d oc oh kc kh cs hs w6 (HTW.out.later HB6.out) (HHW.out.later HB6.out)).mono ?_
            rintro e w7 ⟨rfl, hb7⟩
            rw [HT2.out]
            have HB7 := Lib.hid (below_step HB6.out hb7)
            clear hb7
            have b0 : w7.cell? ⟨wm.heap.size, 0, none⟩ = some (.int .i64 o) := (HBL.out.later HB7.out).cell 0
            have b1 : w7.cell? ⟨wm.heap.size, 1, none⟩ = some (.slice oc cs.length kc) := (HBL.out.later HB7.out).cell 1
            have b2 : w7.cell? ⟨wm.heap.size, 2, none⟩ = some (.slice (some ⟨gF, 0, none⟩) L.length kF) := (HBL.out.later HB7.out).cell 2
            go_wp2_with fail
            clear b0 b1 b2
            refine (type_any o d oc (some ⟨gF, 0, none⟩) kc kF cs L w7 (HTW.out.later HB7.out) (HIN.out.later HB7.out)).mono ?_
            rintro e w8 ⟨rfl, hb8⟩
            rw [HT3.out]
            have HB8 := Lib.hid (below_step HBF.out (below_step HB7.out hb8))
            clear hb8
            by_cases hdh : d = h
            · subst hdh
              go_wp2
              go_ret
              exact ⟨rfl, HB8.out⟩
            · obtain rfl : t2 = t3 := HEQ.out hdh
              have hdb2 : (d == h) = false := by simpa using hdh
              go_wp2
              go_ret
              exact ⟨rfl, HB8.out⟩
        | false =>
          have HLL := Lib.hid (show xs ++ [h] = L by rw [← HI.out, insTo_last])
          have HNHA := Lib.hid (show (xs).length + 1 ≤ 1000000000 by simp; omega)
          have ccHA : wr.cell? ⟨wm.heap.size, 2, none⟩ = some _ := HG.out.blk.cell 2
          have HSZHA := Lib.hid (show wr.heap.size = wr.heap.size by rfl)
          go_wp2_with (at_builtin; refine wp_append1G (news := [.int .i64 h]) elemInt HG.out HNHA.out (by decide) rfl (oneI h) rfl _ _ rfl rfl HSZHA.out rfl ?_)
          clear ccHA
          intro vvHA w3 hggHA
          obtain ⟨gHA, kHA, rfl, _, _⟩ := hggHA.row.some_of (by omega)
          have hfrHA := hggHA.blk.frozen 2
          have hceHA : w3.cell? ⟨wm.heap.size, 2, none⟩ = some _ := hggHA.blk.cell 2
          have HA := Lib.hid ((hggHA.store 2 (.slice (some ⟨gHA, 0, none⟩) (xs.length + 1) kHA)).cast (cs' := #[.int .i64 o, .slice oc cs.length kc, .slice (some ⟨gHA, 0, none⟩) (xs.length + 1) kHA]) (n' := (xs ++ [h]).length) (xs' := (xs ++ [h]).map (Value.int .i64 ·)) (by simp) (by simp) (by simp))
          clear hggHA
          go_upto_region 19 with (fail)
          clear hfrHA hceHA
          have HF := Lib.hid (HA.out.cast (n' := L.length) (xs' := L.map (Value.int .i64 ·)) (cs' := #[.int .i64 o, .slice oc cs.length kc, .slice (some ⟨gHA, 0, none⟩) L.length kHA]) (by rw [← HLL.out]; simp) (by rw [HLL.out]) (by rw [HLL.out]))
          have HLN := Lib.hid (show xs.length + 1 = L.length by rw [← HLL.out]; simp)
          have HIN := Lib.hid (show Ints (w3.setCell ⟨wm.heap.size, 2, none⟩ (.slice (some ⟨gHA, 0, none⟩) (xs.length + 1) kHA)) (some ⟨gHA, 0, none⟩) L from HF.out.row.ints'' HLN.out rfl)
          have HTW := Lib.hid (HC.out.later (below_step HX.out.below HF.out.below))
          have HHW := Lib.hid (HH.out.later (below_step HX.out.below HF.out.below))
          have HBF := Lib.hid (below_step HX.out.below HF.out.below)
          have HXF := Lib.hid (HX.out.later HF.out.below)
          have HBL := Lib.hid HF.out.blk
          clear HF
          obtain ⟨WF, hWF⟩ : ∃ WF, w3.setCell ⟨wm.heap.size, 2, none⟩ (.slice (some ⟨gHA, 0, none⟩) (xs.length + 1) kHA) = WF := ⟨_, rfl⟩
          rw [hWF] at HIN HTW HHW HBF HXF HBL ⊢
          clear hWF
          have b0 : WF.cell? ⟨wm.heap.size, 0, none⟩ = some (.int .i64 o) := HBL.out.cell 0
          have b1 : WF.cell? ⟨wm.heap.size, 1, none⟩ = some (.slice oc cs.length kc) := HBL.out.cell 1
          have b2 : WF.cell? ⟨wm.heap.size, 2, none⟩ = some (.slice (some ⟨gHA, 0, none⟩) (xs.length + 1) kHA) := by have hb := HBL.out.cell 2; rw [← HLN.out] at hb; exact hb
          rw [HLN.out] at b2
          have hv2 : hs.length ≤ 32 := v2
          by_cases h32 : 32 < L.length
          · have hd32 : decide ((32 : Int) < (L.length : Int)) = true := by simp; omega
            have HVF := Lib.hid (show validCal o cs L = false from valid_h (by omega))
            go_wp2_with fail
            clear b0 b1 b2
            refine (valid_any o oc (some ⟨gHA, 0, none⟩) kc kHA cs L WF HTW.out HIN.out).mono ?_
            rintro e w6 ⟨rfl, hb6⟩
            rw [HVF.out]
            have HB6 := Lib.hid (below_step HBF.out hb6)
            clear hb6
            go_wp2
            go_ret
            exact ⟨rfl, HB6.out⟩
          · have hd32 : decide ((32 : Int) < (L.length : Int)) = false := by simp; omega
            have HVT := Lib.hid (show validCal o cs L = true from valid_more HQ.out (by omega) (by rw [← HL.out]; exact insU_incr (by omega) HV6.out (by omega)))
            have HT1 := Lib.hid (typeV_ok (o := o) (cs := cs) (hs := L) (d := h) (by rw [HVT.out, Bool.true_and]; exact band_iff.2 (by omega)))
            have HT2 := Lib.hid (typeV_ok (o := o) (cs := cs) (hs := hs) (d := d) (by rw [HQ.out, Bool.true_and]; exact band_iff.2 (by omega)))
            have HT3 := Lib.hid (typeV_ok (o := o) (cs := cs) (hs := L) (d := d) (by rw [HVT.out, Bool.true_and]; exact band_iff.2 (by omega)))
            have HC1 := Lib.hid (show L.contains h = true by rw [← HL.out]; exact insU_self)
            have HC2 := Lib.hid (fun hne : d ≠ h => show L.contains d = hs.contains d by rw [← HL.out]; exact insU_has hne)
            rw [if_pos HC1.out] at HT1
            obtain ⟨t2, ht2⟩ : ∃ t2, (if hs.contains d then (2 : Int) else weekOf (d % 7)) = t2 := ⟨_, rfl⟩
            obtain ⟨t3, ht3⟩ : ∃ t3, (if L.contains d then (2 : Int) else weekOf (d % 7)) = t3 := ⟨_, rfl⟩
            have HEQ := Lib.hid (fun hne : d ≠ h => show t2 = t3 by rw [← ht2, ← ht3, HC2.out hne])
            rw [ht2] at HT2
            rw [ht3] at HT3
            clear ht2 ht3 HC1 HC2 HVT
            go_wp2_with fail
            clear b0 b1 b2
            refine (type_any o h oc (some ⟨gHA, 0, none⟩) kc kHA cs L WF HTW.out HIN.out).mono ?_
            rintro e w6 ⟨rfl, hb6⟩
            rw [HT1.out]
            have HB6 := Lib.hid hb6
            clear hb6
            have x0 := (HXF.out.later HB6.out).c0
            have x1 := (HXF.out.later HB6.out).c1
            have x2 := (HXF.out.later HB6.out).c2
            go_wp2_with fail
            clear x0 x1 x2
            refine (type_any o d oc oh kc kh cs hs w6 (HTW.out.later HB6.out) (HHW.out.later HB6.out)).mono ?_
            rintro e w7 ⟨rfl, hb7⟩
            rw [HT2.out]
            have HB7 := Lib.hid (below_step HB6.out hb7)
            clear hb7
            have b0 : w7.cell? ⟨wm.heap.size, 0, none⟩ = some (.int .i64 o) := (HBL.out.later HB7.out).cell 0
            have b1 : w7.cell? ⟨wm.heap.size, 1, none⟩ = some (.slice oc cs.length kc) := (HBL.out.later HB7.out).cell 1
            have b2 : w7.cell? ⟨wm.heap.size, 2, none⟩ = some (.slice (some ⟨gHA, 0, none⟩) L.length kHA) := (HBL.out.later HB7.out).cell 2
            go_wp2_with fail
            clear b0 b1 b2
            refine (type_any o d oc (some ⟨gHA, 0, none⟩) kc kHA cs L w7 (HTW.out.later HB7.out) (HIN.out.later HB7.out)).mono ?_
            rintro e w8 ⟨rfl, hb8⟩
            rw [HT3.out]
            have HB8 := Lib.hid (below_step HBF.out (below_step HB7.out hb8))
            clear hb8
            by_cases hdh : d = h
            · subst hdh
              go_wp2
              go_ret
              exact ⟨rfl, HB8.out⟩
            · obtain rfl : t2 = t3 := HEQ.out hdh
              have hdb2 : (d == h) = false := by simpa using hdh
              go_wp2
              go_ret
              exact ⟨rfl, HB8.out⟩
end Go.Proofs.Ytgjnekfmnepjeaa
