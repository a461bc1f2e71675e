/- Chapter 26: DaysOffsets, DaysCalm, DaysChanges, walked. -/
import Derived.Test.YtgjnekfmnepjeaaWi26
import Derived.Test.YtgjnekfmnepjeaaPlainC26
namespace Go.Proofs.Ytgjnekfmnepjeaa
open Go.RowKit

set_option maxHeartbeats 2000000 in
theorem DaysOffsets_any (o n : Int) (oc oh : Option Addr) (kc kh : Nat) (cs : List (Int × Int)) (hs : List Int) (w : World) (hc : Twos w oc cs) (hh : Ints w oh hs) (h0 : 0 ≤ n) (h1 : n < 4294967296) :
    Calls Try.prog 4 #[calV o oc cs.length kc oh hs.length kh, .int .u32 n] w (Ret (.bool true) w) := by
  have HC := Lib.hid hc
  have HH := Lib.hid hh
  obtain ⟨q, hq⟩ : ∃ q, validCal o cs hs = q := ⟨_, rfl⟩
  have HQ := Lib.hid hq
  clear hc hh hq
  obtain ⟨m, hm⟩ : ∃ m, n % 52540000 = m := ⟨_, rfl⟩
  have HM := Lib.hid hm
  have m0 : 0 ≤ m := by omega
  have m1 : m < 52540000 := by omega
  clear hm
  go_enter Try.func4, Try.ntmps4
  go_wp2_with fail
  refine (head_any _).mono ?_
  rintro e w1 ⟨rfl, hb⟩
  have HX := Lib.hid ((Box3.new ..).later hb)
  clear hb
  have c0 := HX.out.c0
  have c1 := HX.out.c1
  have c2 := HX.out.c2
  go_wp2_with fail
  refine (usable_any o oc oh kc kh cs hs _ (HC.out.later HX.out.below) (HH.out.later HX.out.below)).mono ?_
  rintro e w1 ⟨rfl, hb⟩
  rw [HQ.out]
  replace HX := Lib.hid (HX.out.later hb)
  clear hb c0 c1 c2
  have c0 := HX.out.c0
  have c1 := HX.out.c1
  have c2 := HX.out.c2
  cases q with
  | false =>
    clear c0 c1 c2
    go_wp2
    go_ret
    exact ⟨rfl, HX.out.below⟩
  | true =>
    obtain ⟨v1, v2, v3, v4, v5, v6⟩ := valid_parts HQ.out
    have hband := band_iff.1 (offAt_band (m := m) v3 v4)
    obtain ⟨f, hf⟩ : ∃ f, offAt m o cs = f := ⟨_, rfl⟩
    rw [hf] at hband
    have HF := Lib.hid hf
    clear v3 v4 v5 v6 hf
    go_wp2_with fail
    refine (minute_any n h0 h1 _).mono ?_
    rintro e w1 ⟨rfl, rfl⟩
    rw [HM.out]
    go_wp2
    clear c0 c1 c2
    go_loopw [7, 24] (fun u i wr => ∃ (k : Nat) (z : Int), k ≤ cs.length ∧ i = .int .i64 k ∧ u = .int .i64 z ∧ offAt m o cs = offAt m z (cs.drop k) ∧ Box3 w wr (.int .i64 o) (.slice oc cs.length kc) (.slice oh hs.length kh)) (fun _ i _ => cs.length - (intOf i).toNat)
    case atStart => exact ⟨0, o, Nat.zero_le _, rfl, rfl, rfl, HX.out⟩
    case round =>
      obtain ⟨k, z, hk, rfl, rfl, ho, hx⟩ := hrel
      have HO := Lib.hid ho
      replace HX := Lib.hid hx
      clear ho hx
      have c1 := HX.out.c1
      by_cases hlt : k < cs.length
      · obtain ⟨g, off, hg, g1, g2⟩ := (HC.out.later HX.out.below) k hlt
        subst hg
        obtain ⟨x, hx⟩ : ∃ x, (cs.getD k (0, 0)).1 = x := ⟨_, rfl⟩
        obtain ⟨y, hy⟩ : ∃ y, (cs.getD k (0, 0)).2 = y := ⟨_, rfl⟩
        rw [hx] at g1
        rw [hy] at g2
        have HXX := Lib.hid hx
        have HYY := Lib.hid hy
        clear hx hy
        by_cases t : x ≤ m
        · go_wp2
          go_roundw
          case rel => exact ⟨k + 1, y, by omega, by go_num, rfl, by rw [HO.out, drop_getD cs k hlt (0, 0), offAt, HXX.out, HYY.out, if_pos t], HX.out.alloc _⟩
          case measure => simp [intOf]; omega
        · go_wp2
          go_roundw
          case rel => exact ⟨k + 1, z, by omega, by go_num, rfl, by rw [HO.out, drop_getD cs k hlt (0, 0), offAt, HXX.out, if_neg t], HX.out.alloc _⟩
          case measure => simp [intOf]; omega
      · obtain rfl : k = cs.length := by omega
        obtain rfl : f = z := by rw [← HF.out, HO.out, List.drop_length]; rfl
        have c0 := HX.out.c0
        have c2 := HX.out.c2
        have HLV := Lib.hid (loc_ok o m oc oh kc kh cs hs wr (HC.out.later HX.out.below) (HH.out.later HX.out.below) HQ.out (band_iff.2 ⟨by omega, by omega⟩))
        rw [HF.out] at HLV
        go_wp2_with fail
        refine HLV.out.mono ?_
        rintro e w1 ⟨rfl, hb⟩
        replace HX := Lib.hid (HX.out.later hb)
        clear hb c0 c1 c2 HLV
        obtain ⟨l, hl⟩ : ∃ l, m + f = l := ⟨_, rfl⟩
        have e1 : IntKind.i64.wrap (l - m) = f := (IntWalk.i64_in _ (by omega)).trans (by omega)
        rw [hl]
        clear hl
        go_wp2
        go_ret
        exact ⟨rfl, HX.out.below⟩

set_option maxHeartbeats 2000000 in
theorem DaysCalm_any (o n l : Int) (oc oh : Option Addr) (kc kh : Nat) (cs : List (Int × Int)) (hs : List Int) (w : World) (hc : Twos w oc cs) (hh : Ints w oh hs) (h0 : 0 ≤ n) (h1 : n < 4294967296) (l0 : 0 ≤ l) (l1 : l < 65536) :
    Calls Try.prog 5 #[calV o oc cs.length kc oh hs.length kh, .int .u32 n, .int .u16 l] w (Ret (.bool true) w) := by
  have HC := Lib.hid hc
  have HH := Lib.hid hh
  obtain ⟨q, hq⟩ : ∃ q, validCal o cs hs = q := ⟨_, rfl⟩
  have HQ := Lib.hid hq
  clear hc hh hq
  obtain ⟨m, hm⟩ : ∃ m, n % 52540000 = m := ⟨_, rfl⟩
  have HM := Lib.hid hm
  have m0 : 0 ≤ m := by omega
  have m1 : m < 52540000 := by omega
  clear hm
  obtain ⟨j, hj⟩ : ∃ j, l.tmod 1440 = j := ⟨_, rfl⟩
  have hje : l % 1440 = j := by rw [← hj, Int.tmod_eq_emod_of_nonneg l0]
  have j0 : 0 ≤ j := by omega
  have j1 : j < 1440 := by omega
  obtain ⟨k, hk⟩ : ∃ k, m + j = k := ⟨_, rfl⟩
  obtain ⟨M, hM⟩ : ∃ M, m + 1440 = M := ⟨_, rfl⟩
  have e1 : IntKind.i64.wrap l = l := IntWalk.i64_in _ (by omega)
  have e2 : IntKind.i64.wrap j = j := IntWalk.i64_in _ (by omega)
  have e3 : IntKind.i64.wrap k = k := IntWalk.i64_in _ (by omega)
  have e4 : IntKind.i64.wrap M = M := IntWalk.i64_in _ (by omega)
  have HJ := Lib.hid (And.intro hk hM)
  clear hje
  go_enter Try.func5, Try.ntmps5
  go_wp2_with fail
  refine (head_any _).mono ?_
  rintro e w1 ⟨rfl, hb⟩
  have HX := Lib.hid ((Box3.new ..).later hb)
  clear hb
  have c0 := HX.out.c0
  have c1 := HX.out.c1
  have c2 := HX.out.c2
  go_wp2_with fail
  refine (minute_any n h0 h1 _).mono ?_
  rintro e w1 ⟨rfl, rfl⟩
  rw [HM.out]
  go_wp2_with fail
  refine (usable_any o oc oh kc kh cs hs _ (HC.out.later HX.out.below) (HH.out.later HX.out.below)).mono ?_
  rintro e w1 ⟨rfl, hb⟩
  rw [HQ.out]
  replace HX := Lib.hid (HX.out.later hb)
  clear hb c0 c1 c2
  have c0 := HX.out.c0
  have c1 := HX.out.c1
  have c2 := HX.out.c2
  cases q with
  | false =>
    clear c0 c1 c2
    go_wp2
    go_ret
    exact ⟨rfl, HX.out.below⟩
  | true =>
    obtain ⟨v1, v2, v3, v4, v5, v6⟩ := valid_parts HQ.out
    obtain ⟨p, hp⟩ : ∃ p, chB m M cs = p := ⟨_, rfl⟩
    have HP := Lib.hid hp
    obtain ⟨f, hf⟩ : ∃ f, offAt m o cs = f := ⟨_, rfl⟩
    have hband := band_iff.1 (offAt_band (m := m) v3 v4)
    rw [hf] at hband
    have HF := Lib.hid hf
    clear v3 v4 v5 v6 hp hf
    go_wp2_with fail
    refine (change_any o m M oc oh kc kh cs hs _ (by omega) (HC.out.later HX.out.below)).mono ?_
    rintro e w1 ⟨rfl, hb⟩
    rw [HP.out]
    replace HX := Lib.hid (HX.out.later hb)
    clear hb c0 c1 c2
    have c0 := HX.out.c0
    have c1 := HX.out.c1
    have c2 := HX.out.c2
    cases p with
    | true =>
      clear c0 c1 c2
      go_wp2
      go_ret
      exact ⟨rfl, HX.out.below⟩
    | false =>
      have HFk := Lib.hid ((calm_off (o := o) HP.out (m' := k) (by omega) (by omega)).trans HF.out)
      have HFM := Lib.hid ((calm_off (o := o) HP.out (m' := M) (by omega) (by omega)).trans HF.out)
      obtain ⟨A, hA⟩ : ∃ A, m + f = A := ⟨_, rfl⟩
      obtain ⟨B, hB⟩ : ∃ B, k + f = B := ⟨_, rfl⟩
      obtain ⟨d, hd⟩ : ∃ d, A / 1440 = d := ⟨_, rfl⟩
      obtain ⟨u, hu⟩ : ∃ u, A % 1440 = u := ⟨_, rfl⟩
      obtain ⟨h, hh'⟩ : ∃ h, B / 1440 = h := ⟨_, rfl⟩
      obtain ⟨v, hv⟩ : ∃ v, B % 1440 = v := ⟨_, rfl⟩
      have HLm : Hid (localV o cs hs m = .tuple #[.int .i64 d, .int .i64 u, .int .i64 0]) := Lib.hid (by
        rw [localV_ok (by rw [HQ.out, band_iff.2 ⟨m0, by omega⟩]; rfl), HF.out, hA, hd, hu])
      have HLk : Hid (localV o cs hs k = .tuple #[.int .i64 h, .int .i64 v, .int .i64 0]) := Lib.hid (by
        rw [localV_ok (by rw [HQ.out, band_iff.2 ⟨by omega, by omega⟩]; rfl), HFk.out, hB, hh', hv])
      have HLM : Hid (localV o cs hs M = .tuple #[.int .i64 (d + 1), .int .i64 u, .int .i64 0]) := Lib.hid (by
        rw [localV_ok (by rw [HQ.out, band_iff.2 ⟨by omega, by omega⟩]; rfl), HFM.out, show (M + f) / 1440 = d + 1 by omega, show (M + f) % 1440 = u by omega])
      have HOm := Lib.hid (fun w' hw1 hw2 => loc_ok o m oc oh kc kh cs hs w' hw1 hw2 HQ.out (band_iff.2 ⟨m0, by omega⟩))
      have HOk := Lib.hid (fun w' hw1 hw2 => loc_ok o k oc oh kc kh cs hs w' hw1 hw2 HQ.out (band_iff.2 ⟨by omega, by omega⟩))
      rw [HF.out, hA] at HOm
      rw [HFk.out, hB] at HOk
      have hor : h = d ∨ h = d + 1 := by omega
      obtain ⟨s, hs'⟩ : ∃ s, B - A = s := ⟨_, rfl⟩
      have hs2 : k - m = s := by omega
      have e5 : IntKind.i64.wrap s = s := IntWalk.i64_in _ (by omega)
      have e6 : IntKind.i64.wrap (d + 1) = d + 1 := IntWalk.i64_in _ (by omega)
      have e7 : (d + 1 == d) = false := by simp; omega
      clear hA hB hd hu hh' hv hband
      go_wp2_with fail
      refine (HOm.out _ (HC.out.later HX.out.below) (HH.out.later HX.out.below)).mono ?_
      rintro e w1 ⟨rfl, hb⟩
      replace HX := Lib.hid (HX.out.later hb)
      clear hb c0 c1 c2
      have c0 := HX.out.c0
      have c1 := HX.out.c1
      have c2 := HX.out.c2
      go_wp2_with fail
      refine (HOk.out _ (HC.out.later HX.out.below) (HH.out.later HX.out.below)).mono ?_
      rintro e w1 ⟨rfl, hb⟩
      replace HX := Lib.hid (HX.out.later hb)
      clear hb c0 c1 c2
      have c0 := HX.out.c0
      have c1 := HX.out.c1
      have c2 := HX.out.c2
      go_wp2_with fail
      refine (local_any o m oc oh kc kh cs hs _ (HC.out.later HX.out.below) (HH.out.later HX.out.below)).mono ?_
      rintro e w1 ⟨rfl, hb⟩
      rw [HLm.out]
      replace HX := Lib.hid (HX.out.later hb)
      clear hb c0 c1 c2
      have c0 := HX.out.c0
      have c1 := HX.out.c1
      have c2 := HX.out.c2
      go_wp2_with fail
      refine (local_any o M oc oh kc kh cs hs _ (HC.out.later HX.out.below) (HH.out.later HX.out.below)).mono ?_
      rintro e w1 ⟨rfl, hb⟩
      rw [HLM.out]
      replace HX := Lib.hid (HX.out.later hb)
      clear hb c0 c1 c2
      have c0 := HX.out.c0
      have c1 := HX.out.c1
      have c2 := HX.out.c2
      go_wp2_with fail
      refine (local_any o k oc oh kc kh cs hs _ (HC.out.later HX.out.below) (HH.out.later HX.out.below)).mono ?_
      rintro e w1 ⟨rfl, hb⟩
      rw [HLk.out]
      replace HX := Lib.hid (HX.out.later hb)
      clear hb c0 c1 c2
      rcases hor with rfl | rfl
      · go_wp2
        go_ret
        exact ⟨rfl, HX.out.below⟩
      · go_wp2
        go_ret
        exact ⟨rfl, HX.out.below⟩

set_option maxHeartbeats 2000000 in
theorem DaysChanges_any (o : Int) (oc oh : Option Addr) (kc kh : Nat) (cs : List (Int × Int)) (hs : List Int) (w : World) (hc : Twos w oc cs) (hh : Ints w oh hs) :
    Calls Try.prog 6 #[calV o oc cs.length kc oh hs.length kh] w (Ret (.bool true) w) := by
  have HC := Lib.hid hc
  have HH := Lib.hid hh
  obtain ⟨q, hq⟩ : ∃ q, validCal o cs hs = q := ⟨_, rfl⟩
  have HQ := Lib.hid hq
  clear hc hh hq
  go_enter Try.func6, Try.ntmps6
  go_wp2_with fail
  refine (head_any _).mono ?_
  rintro e w1 ⟨rfl, hb⟩
  have HX := Lib.hid ((Box3.new ..).later hb)
  clear hb
  have c0 := HX.out.c0
  have c1 := HX.out.c1
  have c2 := HX.out.c2
  go_wp2_with fail
  refine (usable_any o oc oh kc kh cs hs _ (HC.out.later HX.out.below) (HH.out.later HX.out.below)).mono ?_
  rintro e w1 ⟨rfl, hb⟩
  rw [HQ.out]
  replace HX := Lib.hid (HX.out.later hb)
  clear hb c0 c1 c2
  have c0 := HX.out.c0
  have c1 := HX.out.c1
  have c2 := HX.out.c2
  cases q with
  | false =>
    clear c0 c1 c2
    go_wp2
    go_ret
    exact ⟨rfl, HX.out.below⟩
  | true =>
    obtain ⟨v1, v2, v3, v4, v5, v6⟩ := valid_parts HQ.out
    have HV3 := Lib.hid v3
    have HV4 := Lib.hid v4
    have HV5 := Lib.hid v5
    have hob := band_iff.1 v3
    clear v3 v4 v5 v6
    go_wp2
    clear c0 c1 c2
    go_loopw [4, 23] (fun u i wr => ∃ (k : Nat) (z : Int), k ≤ cs.length ∧ i = .int .i64 k ∧ u = .int .i64 z ∧ seenTo o cs k z ∧ -1440 ≤ z ∧ z ≤ 1440 ∧ Box3 w wr (.int .i64 o) (.slice oc cs.length kc) (.slice oh hs.length kh)) (fun _ i _ => cs.length - (intOf i).toNat)
    case atStart => exact ⟨0, o, Nat.zero_le _, rfl, rfl, seenTo_zero o cs, hob.1, hob.2, HX.out⟩
    case round =>
      obtain ⟨k, z, hk, rfl, rfl, hs0, z0, z1, hx⟩ := hrel
      have HS := Lib.hid hs0
      replace HX := Lib.hid hx
      clear hs0 hx
      by_cases hlt : k < cs.length
      · obtain ⟨g, off, hg, g1, g2⟩ := (HC.out.later HX.out.below) k hlt
        subst hg
        obtain ⟨x, hx⟩ : ∃ x, (cs.getD k (0, 0)).1 = x := ⟨_, rfl⟩
        obtain ⟨y, hy⟩ : ∃ y, (cs.getD k (0, 0)).2 = y := ⟨_, rfl⟩
        have hyb := getD_band HV4.out hlt
        have hxb := getD_key HV5.out hlt
        have HAt := Lib.hid (seen_at HV5.out HS.out hlt)
        have HBe := Lib.hid (seen_before HV5.out HS.out hlt)
        have HSt := Lib.hid (seen_step HS.out hlt)
        rw [hx] at g1 hxb
        rw [hy] at g2 hyb
        rw [hx, hy] at HAt
        rw [hx] at HBe
        rw [hy] at HSt
        clear hx hy
        by_cases t : 0 < x
        · have HO1 := Lib.hid (fun w' hw1 hw2 => loc_ok o (x - 1) (some ⟨g, off, none⟩) oh kc kh cs hs w' hw1 hw2 HQ.out (band_iff.2 ⟨by omega, by omega⟩))
          have HO2 := Lib.hid (fun w' hw1 hw2 => loc_ok o x (some ⟨g, off, none⟩) oh kc kh cs hs w' hw1 hw2 HQ.out (band_iff.2 ⟨by omega, by omega⟩))
          rw [HBe.out] at HO1
          rw [HAt.out] at HO2
          obtain ⟨A, hA⟩ : ∃ A, x - 1 + z = A := ⟨_, rfl⟩
          obtain ⟨B, hB⟩ : ∃ B, x + y = B := ⟨_, rfl⟩
          rw [hA] at HO1
          rw [hB] at HO2
          have e1 : IntKind.i64.wrap (x - 1) = x - 1 := IntWalk.i64_in _ (by omega)
          obtain ⟨s, hs'⟩ : ∃ s, B - A = s := ⟨_, rfl⟩
          have e2 : IntKind.i64.wrap s = s := IntWalk.i64_in _ (by omega)
          have e3 : IntKind.i64.wrap (1 + y) = 1 + y := IntWalk.i64_in _ (by omega)
          have e4 : IntKind.i64.wrap (1 + y - z) = s := (IntWalk.i64_in _ (by omega)).trans (by omega)
          have HX2 := Lib.hid (HX.out.alloc (.cells #[.int .i64 x, .int .i64 y] 37))
          have c0 := HX2.out.c0
          have c1 := HX2.out.c1
          have c2 := HX2.out.c2
          go_wp2_with fail
          refine (HO1.out _ (HC.out.later HX2.out.below) (HH.out.later HX2.out.below)).mono ?_
          rintro e w1 ⟨rfl, hb⟩
          obtain ⟨d0, d1⟩ := two_new hb
          replace HX2 := Lib.hid (HX2.out.later hb)
          clear hb c0 c1 c2 g1 g2
          have c0 := HX2.out.c0
          have c1 := HX2.out.c1
          have c2 := HX2.out.c2
          have HD := Lib.hid (And.intro d0 d1)
          clear d1
          go_wp2_with fail
          refine (HO2.out _ (HC.out.later HX2.out.below) (HH.out.later HX2.out.below)).mono ?_
          rintro e w2 ⟨rfl, hb⟩
          have d1 := cell_kept hb HD.out.2
          replace HX2 := Lib.hid (HX2.out.later hb)
          clear hb c0 c1 c2 d0
          go_wp2
          go_roundw
          case rel => exact ⟨k + 1, y, by omega, by go_num, rfl, HSt.out, hyb.1, hyb.2, HX2.out⟩
          case measure => simp [intOf]; omega
        · go_wp2
          go_roundw
          case rel => exact ⟨k + 1, y, by omega, by go_num, rfl, HSt.out, hyb.1, hyb.2, HX.out.alloc _⟩
          case measure => simp [intOf]; omega
      · obtain rfl : k = cs.length := by omega
        have HOe := Lib.hid (loc_ok o 52560000 oc oh kc kh cs hs wr (HC.out.later HX.out.below) (HH.out.later HX.out.below) HQ.out (band_iff.2 ⟨by omega, by omega⟩))
        rw [seen_end HV5.out HS.out] at HOe
        have e1 : IntKind.i64.wrap (52560000 + z) = 52560000 + z := IntWalk.i64_in _ (by omega)
        have c0 := HX.out.c0
        have c1 := HX.out.c1
        have c2 := HX.out.c2
        go_wp2_with fail
        refine HOe.out.mono ?_
        rintro e w1 ⟨rfl, hb⟩
        replace HX := Lib.hid (HX.out.later hb)
        clear hb c0 c1 c2 HOe
        go_wp2
        go_ret
        exact ⟨rfl, HX.out.below⟩

end Go.Proofs.Ytgjnekfmnepjeaa
