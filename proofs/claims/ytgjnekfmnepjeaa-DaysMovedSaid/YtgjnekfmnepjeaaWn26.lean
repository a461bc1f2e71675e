/- Chapter 26: DaysMoved, walked. -/
import Derived.Test.YtgjnekfmnepjeaaWi26
import Derived.Test.YtgjnekfmnepjeaaGrowN
import Derived.Test.YtgjnekfmnepjeaaKitB
import Derived.Test.YtgjnekfmnepjeaaPlainF26
import Derived.Deep.Cut
namespace Go.Proofs.Ytgjnekfmnepjeaa
open Go.RowKit
attribute [local go_sem] Oper.semAt_some

theorem elemCh : ElemI Try.prog 22 37 2 16 := ElemI.of (by kernel_rfl) (by kernel_rfl) (by decide)
def tw (l : List (Int × Int)) : List Value := l.flatMap fun x => [.int .i64 x.1, .int .i64 x.2]
theorem tw_append (l l' : List (Int × Int)) : tw (l ++ l') = tw l ++ tw l' := List.flatMap_append ..
theorem tw_get : ∀ (l : List (Int × Int)) (i : Nat), i < l.length → (tw l)[i * 2]? = some (.int .i64 (l.getD i (0, 0)).1) ∧ (tw l)[i * 2 + 1]? = some (.int .i64 (l.getD i (0, 0)).2)
  | [], _, h => absurd h (by simp)
  | x :: l, 0, _ => by simp [tw]
  | x :: l, i + 1, h => by
    have := tw_get l i (by simpa using h)
    have e : tw (x :: l) = .int .i64 x.1 :: .int .i64 x.2 :: tw l := rfl
    rw [e, show (i + 1) * 2 = i * 2 + 1 + 1 by omega]
    simpa using this
theorem Row.twos' {w2 wr : World} {e : TypeId} {l : List (Int × Int)} {g cap n : Nat} (h : Row w2 wr e 2 (.slice (some ⟨g, 0, none⟩) n cap) n (tw l)) (hn : l.length = n) : Twos wr (some ⟨g, 0, none⟩) l := fun i hi => by
  refine ⟨g, 0, rfl, ?_, ?_⟩
  · rw [Nat.zero_add, h.cellAt _ (by omega)]
    exact (tw_get l i hi).1
  · rw [Nat.zero_add, h.cellAt _ (by omega)]
    exact (tw_get l i hi).2
theorem Row.twosV {w2 wr : World} {e : TypeId} {l : List (Int × Int)} {v : Value} {n : Nat} (h : Row w2 wr e 2 v n (tw l)) (hn : l.length = n) : ∃ og kg, v = .slice og l.length kg ∧ Twos wr og l := by
  subst hn
  rcases Nat.eq_zero_or_pos l.length with h0 | h0
  · obtain ⟨og, kg, hv, _⟩ := h.shape
    exact ⟨og, kg, hv, by rw [List.eq_nil_of_length_eq_zero h0]; exact Twos.nil⟩
  · obtain ⟨g, kg, rfl, _, _⟩ := h.some_of h0
    exact ⟨_, kg, rfl, h.twos' rfl⟩

set_option maxRecDepth 100000 in
set_option maxHeartbeats 8000000 in
theorem DaysMoved_any (o n : Int) (oc oh : Option Addr) (kc kh : Nat) (cs : List (Int × Int)) (hs : List Int) (w : World) (hc : Twos w oc cs) (hh : Ints w oh hs) (n0 : 0 ≤ n) (n1 : n < 4294967296) :
    Calls Try.prog 9 #[calV o oc cs.length kc oh hs.length kh, .int .u32 n] w (Ret (.bool true) w) := by
  have HC := Lib.hid hc
  have HH := Lib.hid hh
  obtain ⟨q, hq⟩ : ∃ q, validCal o cs hs = q := ⟨_, rfl⟩
  have HQ := Lib.hid hq
  clear hc hh hq
  go_enter Try.func9, Try.ntmps9
  go_wp2_with fail
  refine (head_any _).mono ?_
  rintro e w1 ⟨rfl, hb⟩
  have HX := Lib.hid ((Box3.new ..).later hb)
  clear hb
  have c0 := HX.out.c0
  have c1 := HX.out.c1
  have c2 := HX.out.c2
  go_wp2_with fail
  refine (usable_any o oc oh kc kh cs hs _ (HC.out.later HX.out.below) (HH.out.later HX.out.below)).mono ?_
  rintro e wm ⟨rfl, hb⟩
  rw [HQ.out]
  replace HX := Lib.hid (HX.out.later hb)
  clear hb c0 c1 c2
  cases q with
  | false =>
    go_wp2
    go_ret
    exact ⟨rfl, HX.out.below⟩
  | true =>
    obtain ⟨v1, v2, v3, v4, v5, v6⟩ := valid_parts HQ.out
    have HV4 := Lib.hid v4
    have ob := band_iff.1 v3
    clear v3 v4 v5 v6
    have c0 := HX.out.c0
    have c1 := HX.out.c1
    have c2 := HX.out.c2
    have HG0 := Lib.hid (Grow.new wm 37 2 25 #[.int .i64 (o + 1440), .slice none 0 0, .slice oh hs.length kh])
    have k1 := (HX.out.later HG0.out.below).c1
    go_wp2
    clear c0 c1 c2 k1
    go_loopw [31] (fun i wr => ∃ (k : Nat) (v : Value), k ≤ cs.length ∧ i = .int .i64 k ∧ Grow wm wr 37 2 25 #[.int .i64 (o + 1440), v, .slice oh hs.length kh] v k (tw (mv (cs.take k)))) (fun i _ => cs.length - (intOf i).toNat)
    case atStart => exact ⟨0, _, Nat.zero_le _, rfl, HG0.out⟩
    case round =>
      obtain ⟨k, v, hk, rfl, hg⟩ := hrel
      have HG := Lib.hid hg
      clear hg HG0
      by_cases hlt : k < cs.length
      · obtain ⟨g, off, hgo, g1, g2⟩ := (HC.out.later (below_step HX.out.below HG.out.below)) k hlt
        subst hgo
        have HMT := Lib.hid (mv_take hlt)
        have hxb := band_iff.1 (HV4.out (cs.getD k (0, 0)) (by simp [hlt]))
        obtain ⟨x, hx⟩ : ∃ x, cs.getD k (0, 0) = x := ⟨_, rfl⟩
        rw [hx] at g1 g2 HMT hxb
        clear hx
        obtain ⟨x1, x2⟩ := x
        simp only at g1 g2 HMT hxb
        have z1 : (0 : Int) ≤ (k : Int) := by omega
        have z2 : (k : Int) < (cs.length : Int) := by omega
        have z3 : wm.heap.size < wr.heap.size := HG.out.blk.lt
        have cc : wr.cell? ⟨wm.heap.size, 1, none⟩ = some v := HG.out.blk.cell 1
        have HG1 := Lib.hid (HG.out.alloc (.cells #[.int .i64 x1, .int .i64 x2] 37))
        have HN := Lib.hid (show k + 1 ≤ 1000000000 by omega)
        have HSZ := Lib.hid (show wr.heap.size + 1 = (wr.alloc (.cells #[.int .i64 x1, .int .i64 x2] 37)).heap.size by simp)
        go_wp2_with (at_builtin; refine wp_append1G (news := [.int .i64 x1, .int .i64 (x2 + 1440)]) elemCh HG1.out HN.out (by decide) rfl (oneI2 x1 (x2 + 1440)) rfl _ _ rfl rfl HSZ.out rfl ?_)
        clear cc g1 g2
        intro v2 w4 hg2
        obtain ⟨og, kg, rfl, _⟩ := hg2.row.shape
        have hfr := hg2.blk.frozen 1
        have hce : w4.cell? ⟨wm.heap.size, 1, none⟩ = some v := hg2.blk.cell 1
        have HG2 := Lib.hid ((hg2.store 1 (.slice og (k + 1) kg)).cast (cs' := #[.int .i64 (o + 1440), .slice og (k + 1) kg, .slice oh hs.length kh]) (n' := k + 1) (xs' := tw (mv (cs.take (k + 1)))) (by simp) rfl (by rw [HMT.out, tw_append]; rfl))
        clear hg2
        go_wp2
        go_roundw
        case rel => exact ⟨k + 1, _, by omega, by go_num, HG2.out⟩
        case measure => simp [intOf]; omega
      · obtain rfl : k = cs.length := by omega
        rw [List.take_of_length_le (Nat.le_refl _)] at HG
        obtain ⟨og, kg, rfl, htw⟩ := HG.out.row.twosV (mv_length cs)
        have HTM := Lib.hid htw
        clear htw
        have HBL := Lib.hid HG.out.blk
        have HXF := Lib.hid (HX.out.later HG.out.below)
        have HBF := Lib.hid (below_step HX.out.below HG.out.below)
        clear HG
        rw [mv_length] at HBL
        have HML := Lib.hid (mv_length cs)
        have b0 : wr.cell? ⟨wm.heap.size, 0, none⟩ = some (.int .i64 (o + 1440)) := HBL.out.cell 0
        have b1 : wr.cell? ⟨wm.heap.size, 1, none⟩ = some (.slice og cs.length kg) := HBL.out.cell 1
        have b2 : wr.cell? ⟨wm.heap.size, 2, none⟩ = some (.slice oh hs.length kh) := HBL.out.cell 2
        go_wp2_with fail
        clear b0 b1 b2
        have HRV := Lib.hid (fun W (h : Below wr.heap.size wr W) => refValid_any (o + 1440) og oh kg kh (mv cs) hs W (HTM.out.later h) (HH.out.later (below_step HBF.out h)))
        have HLM := Lib.hid (fun m W (h : Below wr.heap.size wr W) => local_any (o + 1440) m og oh kg kh (mv cs) hs W (HTM.out.later h) (HH.out.later (below_step HBF.out h)))
        rw [HML.out] at HRV HLM
        refine (HRV.out wr (Below.refl _ _)).mono ?_
        rintro e w5 ⟨rfl, hb5⟩
        have HB5 := Lib.hid hb5
        clear hb5
        obtain ⟨q2, hq2⟩ : ∃ q2, validCal (o + 1440) (mv cs) hs = q2 := ⟨_, rfl⟩
        have HQ2 := Lib.hid hq2
        rw [hq2]
        clear hq2
        cases q2 with
        | false =>
          go_wp2
          go_ret
          exact ⟨rfl, below_step HBF.out HB5.out⟩
        | true =>
          obtain ⟨M, hM⟩ : ∃ M, n % 52540000 = M := ⟨_, rfl⟩
          have HMI := Lib.hid (fun W => (minute_any n n0 n1 W).mono (fun e W' (h : _ ∧ _) => show Ret (.int .i64 (n % 52540000)) W e W' from ⟨h.1, by rw [h.2]; exact Below.refl _ _⟩))
          rw [hM] at HMI
          have hMb : 0 ≤ M ∧ M ≤ 52540000 := by omega
          have hM2 : inBand M 0 52560000 = true := band_iff.2 (by omega)
          have HL1 := Lib.hid (localV_ok (o := o) (cs := cs) (hs := hs) (m := M) (by rw [HQ.out, hM2]; rfl))
          have HL2 := Lib.hid (localV_ok (o := o + 1440) (cs := mv cs) (hs := hs) (m := M) (by rw [HQ2.out, hM2]; rfl))
          rw [offAt_mv] at HL2
          have hob := band_iff.1 (offAt_band (m := M) (cs := cs) (o := o) (band_iff.2 ob) HV4.out)
          obtain ⟨F, hF⟩ : ∃ F, offAt M o cs = F := ⟨_, rfl⟩
          rw [hF] at HL1 HL2 hob
          clear hF hM
          obtain ⟨D, hD⟩ : ∃ D, (M + F) / 1440 = D := ⟨_, rfl⟩
          obtain ⟨S, hS⟩ : ∃ S, (M + F) % 1440 = S := ⟨_, rfl⟩
          have hD2 : (M + (F + 1440)) / 1440 = D + 1 := by omega
          have hS2 : (M + (F + 1440)) % 1440 = S := by omega
          have hDb : -1 ≤ D ∧ D ≤ 36501 := by omega
          rw [hD, hS] at HL1
          rw [hD2, hS2] at HL2
          have HT := Lib.hid (typeV_ok (o := o) (cs := cs) (hs := hs) (d := D) (by rw [HQ.out, Bool.true_and]; exact band_iff.2 hDb))
          obtain ⟨t2, ht2⟩ : ∃ t2, (if hs.contains D then (2 : Int) else weekOf (D % 7)) = t2 := ⟨_, rfl⟩
          rw [ht2] at HT
          clear ht2 hD hS hD2 hS2 hM2
          have HLC := Lib.hid (fun W (h : Below w5.heap.size w5 W) => local_any o M oc oh kc kh cs hs W (HC.out.later (below_step (below_step HBF.out HB5.out) h)) (HH.out.later (below_step (below_step HBF.out HB5.out) h)))
          have HLD := Lib.hid (fun W (h : Below wr.heap.size wr W) => HLM.out M W h)
          rw [HL1.out] at HLC
          rw [HL2.out] at HLD
          clear HLM HRV
          have HX5 := Lib.hid (HXF.out.later HB5.out)
          have HBL5 := Lib.hid (HBL.out.later HB5.out)
          have HW5 := Lib.hid (below_step HBF.out HB5.out)
          go_wp2_with fail

          refine wp_region_B 11 (fun w'' => Below w5.heap.size w5 w'') mixed (by kernel_rfl) (below_closed w5) (Below.refl _ _).drew ?_
          simp only [List.take_succ_cons, List.take_zero, List.drop_succ_cons, List.drop_zero]
          intro KR hR
          have HR := Lib.hid hR
          clear hR
          have HCC := Lib.hid (show ∀ w'', Below w5.heap.size w5 w'' → w''.cell? ⟨w.heap.size, 0, none⟩ = some (.int .i64 o) ∧ w''.cell? ⟨w.heap.size, 1, none⟩ = some (.slice oc cs.length kc) ∧ w''.cell? ⟨w.heap.size, 2, none⟩ = some (.slice oh hs.length kh) from fun w'' hw => ⟨(HX5.out.later hw).c0, (HX5.out.later hw).c1, (HX5.out.later hw).c2⟩)
          apply wpB_val rfl
          · (intro w' hw'; obtain ⟨c0, c1, c2⟩ := HCC.out w' hw'; go_simp; with_reducible rfl)
          simp only [Act.put, List.setIfInBounds_toArray, List.set_cons_zero, List.set_cons_succ]
          ((with_reducible refine wpB_move ?_ ?_); exact rfl; simp only [Act.put, List.setIfInBounds_toArray, List.set_cons_zero, List.set_cons_succ])
          apply wpB_call 19 #[.int .u32 n] rfl (v := _)
          · (intro w'; go_simp)
          · exact fun w' hw' => HMI.out w'
          simp only [Act.put, List.setIfInBounds_toArray, List.set_cons_zero, List.set_cons_succ]
          apply wpB_call 12 #[calV o oc cs.length kc oh hs.length kh, .int .i64 M] rfl (v := _)
          · (intro w'; go_simp)
          · exact fun w' hw' => HLC.out w' hw'
          simp only [Act.put, List.setIfInBounds_toArray, List.set_cons_zero, List.set_cons_succ]
          ((with_reducible refine wpB_move ?_ ?_); exact rfl; simp only [Act.put, List.setIfInBounds_toArray, List.set_cons_zero, List.set_cons_succ])
          apply wpB_val rfl
          · (intro w' hw'; go_simp; with_reducible rfl)
          simp only [Act.put, List.setIfInBounds_toArray, List.set_cons_zero, List.set_cons_succ]
          apply wpB_val rfl
          · (intro w' hw'; go_simp; with_reducible rfl)
          simp only [Act.put, List.setIfInBounds_toArray, List.set_cons_zero, List.set_cons_succ]
          apply wpB_val rfl
          · (intro w' hw'; go_simp; with_reducible rfl)
          simp only [Act.put, List.setIfInBounds_toArray, List.set_cons_zero, List.set_cons_succ]
          apply wpB_val rfl
          · (intro w' hw'; go_simp; with_reducible rfl)
          simp only [Act.put, List.setIfInBounds_toArray, List.set_cons_zero, List.set_cons_succ]
          apply wpB_val rfl
          · (intro w' hw'; go_simp; with_reducible rfl)
          simp only [Act.put, List.setIfInBounds_toArray, List.set_cons_zero, List.set_cons_succ]
          apply wpB_val rfl
          · (intro w' hw'; go_simp; with_reducible rfl)
          simp only [Act.put, List.setIfInBounds_toArray, List.set_cons_zero, List.set_cons_succ]
          refine wpB_nil (HR.out _ (fun w2 hw2 => ?_))
          clear HR HCC
          have HB6 := Lib.hid hw2
          clear hw2
          obtain ⟨w6, hw6⟩ : ∃ w6, w2 = w6 := ⟨_, rfl⟩
          subst hw6
          have HBL6 := Lib.hid (HBL5.out.later HB6.out)
          have HX6 := Lib.hid (HX5.out.later HB6.out)
          have HW6 := Lib.hid (below_step HW5.out HB6.out)
          have HR6 := Lib.hid (below_step HB5.out HB6.out)
          go_wp2_with fail
          refine wp_region_B 11 (fun w'' => Below w2.heap.size w2 w'') mixed (by kernel_rfl) (below_closed w2) (Below.refl _ _).drew ?_
          simp only [List.take_succ_cons, List.take_zero, List.drop_succ_cons, List.drop_zero]
          intro KR hR
          have HR := Lib.hid hR
          clear hR
          have HCC := Lib.hid (show ∀ w'', Below w2.heap.size w2 w'' → w''.cell? ⟨wm.heap.size, 0, none⟩ = some (.int .i64 (o + 1440)) ∧ w''.cell? ⟨wm.heap.size, 1, none⟩ = some (.slice og cs.length kg) ∧ w''.cell? ⟨wm.heap.size, 2, none⟩ = some (.slice oh hs.length kh) from fun w'' hw => ⟨(HBL6.out.later hw).cell 0, (HBL6.out.later hw).cell 1, (HBL6.out.later hw).cell 2⟩)
          apply wpB_val rfl
          · (intro w' hw'; obtain ⟨c0, c1, c2⟩ := HCC.out w' hw'; go_simp; with_reducible rfl)
          simp only [Act.put, List.setIfInBounds_toArray, List.set_cons_zero, List.set_cons_succ]
          ((with_reducible refine wpB_move ?_ ?_); exact rfl; simp only [Act.put, List.setIfInBounds_toArray, List.set_cons_zero, List.set_cons_succ])
          apply wpB_call 19 #[.int .u32 n] rfl (v := _)
          · (intro w'; go_simp)
          · exact fun w' hw' => HMI.out w'
          simp only [Act.put, List.setIfInBounds_toArray, List.set_cons_zero, List.set_cons_succ]
          apply wpB_call 12 #[calV (o + 1440) og cs.length kg oh hs.length kh, .int .i64 M] rfl (v := _)
          · (intro w'; go_simp)
          · exact fun w' hw' => HLD.out w' (below_step HR6.out hw')
          simp only [Act.put, List.setIfInBounds_toArray, List.set_cons_zero, List.set_cons_succ]
          ((with_reducible refine wpB_move ?_ ?_); exact rfl; simp only [Act.put, List.setIfInBounds_toArray, List.set_cons_zero, List.set_cons_succ])
          apply wpB_val rfl
          · (intro w' hw'; go_simp; with_reducible rfl)
          simp only [Act.put, List.setIfInBounds_toArray, List.set_cons_zero, List.set_cons_succ]
          apply wpB_val rfl
          · (intro w' hw'; go_simp; with_reducible rfl)
          simp only [Act.put, List.setIfInBounds_toArray, List.set_cons_zero, List.set_cons_succ]
          apply wpB_val rfl
          · (intro w' hw'; go_simp; with_reducible rfl)
          simp only [Act.put, List.setIfInBounds_toArray, List.set_cons_zero, List.set_cons_succ]
          apply wpB_val rfl
          · (intro w' hw'; go_simp; with_reducible rfl)
          simp only [Act.put, List.setIfInBounds_toArray, List.set_cons_zero, List.set_cons_succ]
          apply wpB_val rfl
          · (intro w' hw'; go_simp; with_reducible rfl)
          simp only [Act.put, List.setIfInBounds_toArray, List.set_cons_zero, List.set_cons_succ]
          apply wpB_val rfl
          · (intro w' hw'; go_simp; with_reducible rfl)
          simp only [Act.put, List.setIfInBounds_toArray, List.set_cons_zero, List.set_cons_succ]
          refine wpB_nil (HR.out _ (fun w2 hw2 => ?_))
          clear HR HCC
          have HX7 := Lib.hid (HX6.out.later hw2)
          have HW7 := Lib.hid (below_step HW6.out hw2)
          clear hw2
          have c0 := HX7.out.c0
          have c1 := HX7.out.c1
          have c2 := HX7.out.c2
          go_wp2_with fail
          clear c0 c1 c2
          refine (type_any o D oc oh kc kh cs hs _ (HC.out.later HW7.out) (HH.out.later HW7.out)).mono ?_
          rintro e w8 ⟨rfl, hb8⟩
          rw [HT.out]
          have HB8 := Lib.hid (below_step HW7.out hb8)
          clear hb8
          go_wp2
          go_ret
          exact ⟨rfl, HB8.out⟩
end Go.Proofs.Ytgjnekfmnepjeaa
