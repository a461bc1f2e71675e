/- Package auditor: dated. -/
import Derived.Test.YtkfmmiekajgdjaaGreatWf43
namespace Go.Proofs.YtkfmmiekajgdjaaGreat
open Go.RowKit
attribute [local go_sem] Oper.semAt_some

def chgA : Int → List (Int × Int) → Bool
  | _, [] => true
  | b, x :: l => ((decide (b < x.1) && decide (x.1 ≤ 52560000)) && insB x.2 (-1440) 1440) && chgA x.1 l
def holA : Int → List Int → Bool
  | _, [] => true
  | b, x :: l => (decide (b < x) && decide (x ≤ 36500)) && holA x l
def datA (off : Int) (chg : List (Int × Int)) (hol : List Int) : Bool := insB off (-1440) 1440 && ((decide ((chg.length : Int) ≤ 16) && decide ((hol.length : Int) ≤ 32)) && (chgA (-1) chg && holA (-1) hol))
theorem dropTA {l : List (Int × Int)} {k : Nat} (h : k < l.length) : l.drop k = l.getD k (0, 0) :: l.drop (k + 1) := by
  rw [List.drop_eq_getElem_cons h]
  simp [h]
theorem dropIA {l : List Int} {k : Nat} (h : k < l.length) : l.drop k = l.getD k 0 :: l.drop (k + 1) := by
  rw [List.drop_eq_getElem_cons h]
  simp [h]
theorem chgA_cons {b : Int} {x : Int × Int} {l : List (Int × Int)} : chgA b (x :: l) = (((decide (b < x.1) && decide (x.1 ≤ 52560000)) && insB x.2 (-1440) 1440) && chgA x.1 l) := rfl
theorem holA_cons {b x : Int} {l : List Int} : holA b (x :: l) = ((decide (b < x) && decide (x ≤ 36500)) && holA x l) := rfl

set_option maxRecDepth 100000 in
set_option maxHeartbeats 16000000 in
theorem dated_any (w0 w : World) (g : Nat) (c : ClA) (f : SesA) (b : BilA) (r : Int) (h : ExM w0 w g c f b r) : Calls Tryz.prog 47 #[.pointer (some ⟨g, 0, none⟩)] w (Need (datA c.off c.chg c.hol) 2 w) := by
  have HX := Lib.hid h
  have HCM := Lib.hid h.here
  clear h
  obtain ⟨V, hV⟩ : ∃ V, datA c.off c.chg c.hol = V := ⟨_, rfl⟩
  rw [hV]
  have HV := Lib.hid (show (insB c.off (-1440) 1440 && ((decide ((c.chg.length : Int) ≤ 16) && decide ((c.hol.length : Int) ≤ 32)) && (chgA (-1) c.chg && holA (-1) c.hol))) = V from hV)
  clear hV
  go_enter Tryz.func47, Tryz.ntmps47
  have c2 : w.cell? ⟨g, 2, none⟩ = some (.int .i64 c.off) := HX.out.blk.cell 2
  have c3 : w.cell? ⟨g, 3, none⟩ = some (.slice c.oc c.chg.length c.cc) := HX.out.blk.cell 3
  have c4 : w.cell? ⟨g, 4, none⟩ = some (.slice c.oh c.hol.length c.ch) := HX.out.blk.cell 4
  go_upto_region 1 with (fail)
  obtain ⟨W1, hW1⟩ : ∃ W1, W1 = w.alloc (.cells #[.int .i64 c.off, .slice c.oc c.chg.length c.cc, .slice c.oh c.hol.length c.ch] 28) := ⟨_, rfl⟩
  have HQ := Lib.hid (show Blk W1 w.heap.size 28 #[.int .i64 c.off, .slice c.oc c.chg.length c.cc, .slice c.oh c.hol.length c.ch] by rw [hW1]; exact Blk.new _ _ _)
  have HB := Lib.hid (show Below w.heap.size w W1 by rw [hW1]; exact below_alloc (Below.refl _ _) _)
  rw [← hW1]
  clear hW1 c2 c3 c4 HX
  obtain ⟨Q, hQ⟩ : ∃ B, w.heap.size = B := ⟨_, rfl⟩
  rw [hQ] at HQ ⊢
  clear hQ
  have q0 : W1.cell? ⟨Q, 0, none⟩ = some (.int .i64 c.off) := HQ.out.cell 0
  have q1 : W1.cell? ⟨Q, 1, none⟩ = some (.slice c.oc c.chg.length c.cc) := HQ.out.cell 1
  have q2 : W1.cell? ⟨Q, 2, none⟩ = some (.slice c.oh c.hol.length c.ch) := HQ.out.cell 2
  have hnc := HCM.out.nc
  have hnh := HCM.out.nh
  go_wp2_with fail
  refine (insideA_any _ _ _ W1).mono ?_
  rintro _ _ ⟨rfl, rfl⟩
  rw [insB_eq]
  obtain ⟨b1, hb1⟩ : ∃ b, insB c.off (-1440) 1440 = b := ⟨_, rfl⟩
  rw [hb1] at HV ⊢
  clear hb1
  cases b1 with
  | false =>
    obtain rfl : false = V := by rw [← HV.out]; rfl
    go_wp2_with fail
    refine (need_no 2 W1).mono ?_
    rintro _ _ ⟨rfl, rfl⟩
    go_wp2
    exact ⟨rfl, Need.no HB.out⟩
  | true =>
  go_wp2_with fail
  refine (need_ok 2 W1).mono ?_
  rintro _ _ ⟨rfl, rfl⟩
  obtain ⟨b2, hb2⟩ : ∃ b, decide ((c.chg.length : Int) ≤ 16) = b := ⟨_, rfl⟩
  rw [hb2] at HV
  cases b2 with
  | false =>
    obtain rfl : false = V := by rw [← HV.out]; rfl
    go_wp2_with fail
    refine (need_no 2 W1).mono ?_
    rintro _ _ ⟨rfl, rfl⟩
    go_wp2
    exact ⟨rfl, Need.no HB.out⟩
  | true =>
  obtain ⟨b3, hb3⟩ : ∃ b, decide ((c.hol.length : Int) ≤ 32) = b := ⟨_, rfl⟩
  rw [hb3] at HV
  cases b3 with
  | false =>
    obtain rfl : false = V := by rw [← HV.out]; rfl
    go_wp2_with fail
    refine (need_no 2 W1).mono ?_
    rintro _ _ ⟨rfl, rfl⟩
    go_wp2
    exact ⟨rfl, Need.no HB.out⟩
  | true =>
  have HV1 := Lib.hid (show (chgA (-1) (c.chg.drop 0) && holA (-1) c.hol) = V by rw [← HV.out, List.drop_zero]; rfl)
  go_wp2_with fail
  refine (need_ok 2 W1).mono ?_
  rintro _ _ ⟨rfl, rfl⟩
  clear hb2 hb3 HV
  go_wp2
  clear q0 q1 q2
  go_loopw [3, 31] (fun b i wr => ∃ (k : Nat) (bf : Int), k ≤ c.chg.length ∧ i = .int .i64 k ∧ b = .int .i64 bf ∧ (chgA bf (c.chg.drop k) && holA (-1) c.hol) = V ∧ Below w.heap.size w wr ∧ Blk wr Q 28 #[.int .i64 c.off, .slice c.oc c.chg.length c.cc, .slice c.oh c.hol.length c.ch]) (fun _ i _ => c.chg.length - (intOf i).toNat)
  case atStart => exact ⟨0, -1, Nat.zero_le _, rfl, rfl, HV1.out, HB.out, HQ.out⟩
  case round =>
    obtain ⟨k, bf, hk, rfl, rfl, hz, hb, hq⟩ := hrel
    obtain ⟨wA, rfl⟩ : ∃ wA : World, wA = wr := ⟨_, rfl⟩
    clear HB HQ HV1
    have HZ := Lib.hid hz
    have HB := Lib.hid hb
    have HQ := Lib.hid hq
    clear hz hb hq
    by_cases hlt : k < c.chg.length
    · obtain ⟨gx, fx, hgo, x0, x1⟩ := (HCM.out.chg.later HB.out) k hlt
      have HE := Lib.hid (show ((((decide (bf < (c.chg.getD k (0, 0)).1) && decide ((c.chg.getD k (0, 0)).1 ≤ 52560000)) && insB (c.chg.getD k (0, 0)).2 (-1440) 1440) && chgA (c.chg.getD k (0, 0)).1 (c.chg.drop (k + 1))) && holA (-1) c.hol) = V by rw [← HZ.out, dropTA hlt, chgA_cons])
      obtain ⟨x, hx⟩ : ∃ x, c.chg.getD k (0, 0) = x := ⟨_, rfl⟩
      rw [hx] at x0 x1 HE
      clear hx HZ
      rw [hgo]
      have y1 : (0 : Int) ≤ (k : Int) := by omega
      have y2 : (k : Int) < (c.chg.length : Int) := by omega
      go_upto_region 7 with (fail)
      obtain ⟨W2, hW2⟩ : ∃ W2, W2 = wA.alloc (.cells #[.int .i64 x.1, .int .i64 x.2] 139) := ⟨_, rfl⟩
      have HP := Lib.hid (show Blk W2 wA.heap.size 139 #[.int .i64 x.1, .int .i64 x.2] by rw [hW2]; exact Blk.new _ _ _)
      have HB2 := Lib.hid (show Below wA.heap.size wA W2 by rw [hW2]; exact below_alloc (Below.refl _ _) _)
      rw [← hW2]
      clear hW2 x0 x1
      replace HQ := Lib.hid (HQ.out.later HB2.out)
      replace HB := Lib.hid (below_step HB.out HB2.out)
      obtain ⟨P, hP⟩ : ∃ B, wA.heap.size = B := ⟨_, rfl⟩
      rw [hP] at HP ⊢
      clear hP HB2
      have p0 : W2.cell? ⟨P, 0, none⟩ = some (.int .i64 x.1) := HP.out.cell 0
      have p1 : W2.cell? ⟨P, 1, none⟩ = some (.int .i64 x.2) := HP.out.cell 1
      obtain ⟨b1, hb1⟩ : ∃ b, decide (bf < x.1) = b := ⟨_, rfl⟩
      rw [hb1] at HE
      cases b1 with
      | false =>
        obtain rfl : false = V := by rw [← HE.out]; rfl
        go_wp2_with fail
        refine (need_no 2 W2).mono ?_
        rintro _ _ ⟨rfl, rfl⟩
        go_wp2
        exact ⟨rfl, Need.no HB.out⟩
      | true =>
      obtain ⟨b2, hb2⟩ : ∃ b, decide (x.1 ≤ 52560000) = b := ⟨_, rfl⟩
      rw [hb2] at HE
      cases b2 with
      | false =>
        obtain rfl : false = V := by rw [← HE.out]; rfl
        go_wp2_with fail
        refine (need_no 2 W2).mono ?_
        rintro _ _ ⟨rfl, rfl⟩
        go_wp2
        exact ⟨rfl, Need.no HB.out⟩
      | true =>
      go_wp2_with fail
      refine (insideA_any _ _ _ W2).mono ?_
      rintro _ _ ⟨rfl, rfl⟩
      rw [insB_eq]
      obtain ⟨b3, hb3⟩ : ∃ b, insB x.2 (-1440) 1440 = b := ⟨_, rfl⟩
      rw [hb3] at HE ⊢
      clear hb3
      cases b3 with
      | false =>
        obtain rfl : false = V := by rw [← HE.out]; rfl
        go_wp2_with fail
        refine (need_no 2 W2).mono ?_
        rintro _ _ ⟨rfl, rfl⟩
        go_wp2
        exact ⟨rfl, Need.no HB.out⟩
      | true =>
      have HN := Lib.hid (show (chgA x.1 (c.chg.drop (k + 1)) && holA (-1) c.hol) = V by rw [← HE.out]; simp)
      go_wp2_with fail
      refine (need_ok 2 W2).mono ?_
      rintro _ _ ⟨rfl, rfl⟩
      clear hb1 hb2
      go_wp2
      go_roundw
      case rel => exact ⟨k + 1, x.1, hlt, by go_num, rfl, HN.out, HB.out, by rw [← hgo]; exact HQ.out⟩
      case measure => simp [intOf]; omega
    · obtain rfl : k = c.chg.length := by omega
      have HV2 := Lib.hid (show holA (-1) (c.hol.drop 0) = V by rw [← HZ.out, List.drop_length, List.drop_zero]; rfl)
      clear HZ
      have q2 : wA.cell? ⟨Q, 2, none⟩ = some (.slice c.oh c.hol.length c.ch) := HQ.out.cell 2
      go_wp2
      clear q2
      go_loopw [3, 56] (fun b i wr => ∃ (n : Nat) (bf : Int), n ≤ c.hol.length ∧ i = .int .i64 n ∧ b = .int .i64 bf ∧ holA bf (c.hol.drop n) = V ∧ Below w.heap.size w wr) (fun _ i _ => c.hol.length - (intOf i).toNat)
      case atStart => exact ⟨0, -1, Nat.zero_le _, rfl, rfl, HV2.out, HB.out⟩
      case round =>
        obtain ⟨n, bf, hn, rfl, rfl, hz, hb⟩ := hrel
        obtain ⟨wB, rfl⟩ : ∃ wB : World, wB = wr := ⟨_, rfl⟩
        clear HB HQ HV2
        have HZ := Lib.hid hz
        have HB := Lib.hid hb
        clear hz hb
        by_cases hn2 : n < c.hol.length
        · obtain ⟨gx, fx, hgo, x0⟩ := (HCM.out.hol.later HB.out) n hn2
          have HE := Lib.hid (show ((decide (bf < c.hol.getD n 0) && decide (c.hol.getD n 0 ≤ 36500)) && holA (c.hol.getD n 0) (c.hol.drop (n + 1))) = V by rw [← HZ.out, dropIA hn2, holA_cons])
          obtain ⟨x, hx⟩ : ∃ x, c.hol.getD n 0 = x := ⟨_, rfl⟩
          rw [hx] at x0 HE
          clear hx HZ
          rw [hgo]
          have y1 : (0 : Int) ≤ (n : Int) := by omega
          have y2 : (n : Int) < (c.hol.length : Int) := by omega
          obtain ⟨b1, hb1⟩ : ∃ b, decide (bf < x) = b := ⟨_, rfl⟩
          rw [hb1] at HE
          cases b1 with
          | false =>
            obtain rfl : false = V := by rw [← HE.out]; rfl
            go_wp2_with fail
            refine (need_no 2 wB).mono ?_
            rintro _ _ ⟨rfl, rfl⟩
            go_wp2
            exact ⟨rfl, Need.no HB.out⟩
          | true =>
          obtain ⟨b2, hb2⟩ : ∃ b, decide (x ≤ 36500) = b := ⟨_, rfl⟩
          rw [hb2] at HE
          cases b2 with
          | false =>
            obtain rfl : false = V := by rw [← HE.out]; rfl
            go_wp2_with fail
            refine (need_no 2 wB).mono ?_
            rintro _ _ ⟨rfl, rfl⟩
            go_wp2
            exact ⟨rfl, Need.no HB.out⟩
          | true =>
          have HN := Lib.hid (show holA x (c.hol.drop (n + 1)) = V by rw [← HE.out]; simp)
          go_wp2_with fail
          refine (need_ok 2 wB).mono ?_
          rintro _ _ ⟨rfl, rfl⟩
          clear hb1 hb2
          go_wp2
          go_roundw
          case rel => exact ⟨n + 1, x, hn2, by go_num, rfl, HN.out, HB.out⟩
          case measure => simp [intOf]; omega
        · obtain rfl : n = c.hol.length := by omega
          obtain rfl : true = V := by rw [← HZ.out, List.drop_length]; rfl
          go_wp2
          go_end0
          exact Need.ok HB.out
end Go.Proofs.YtkfmmiekajgdjaaGreat