/- Chapter 26: Type; Local and Type of the reference. -/
import Derived.Test.YtgjnekfmnepjeaaWf26
namespace Go.Proofs.Ytgjnekfmnepjeaa
open Go.RowKit

theorem typeV_bad {o : Int} {cs : List (Int × Int)} {hs : List Int} {d : Int} (h : (validCal o cs hs && inBand d (-1) 36501) = false) : typeV o cs hs d = .tuple #[.int .i64 0, .int .i64 1] := by
  unfold typeV typeOf; rw [h]; rfl
theorem typeV_ok {o : Int} {cs : List (Int × Int)} {hs : List Int} {d : Int} (h : (validCal o cs hs && inBand d (-1) 36501) = true) : typeV o cs hs d = .tuple #[.int .i64 (if hs.contains d then 2 else weekOf (d % 7)), .int .i64 0] := by
  unfold typeV typeOf; rw [h]; rfl

theorem week_cell {w w' : World} {t : TypeId} (hb : Below (w.alloc (.cells #[.int .i64 0, .int .i64 0, .int .i64 0, .int .i64 0, .int .i64 0, .int .i64 1, .int .i64 2] t)).heap.size (w.alloc (.cells #[.int .i64 0, .int .i64 0, .int .i64 0, .int .i64 0, .int .i64 0, .int .i64 1, .int .i64 2] t)) w') (j : Nat) (hj : j < 7) :
    w'.cell? ⟨w.heap.size, j, none⟩ = some (.int .i64 (weekOf j)) := by
  have h := ((Blk.new w t #[.int .i64 0, .int .i64 0, .int .i64 0, .int .i64 0, .int .i64 0, .int .i64 1, .int .i64 2]).later hb).cell j
  rw [h]
  match j, hj with
  | 0, _ => rfl
  | 1, _ => rfl
  | 2, _ => rfl
  | 3, _ => rfl
  | 4, _ => rfl
  | 5, _ => rfl
  | 6, _ => rfl

set_option maxHeartbeats 1000000 in
theorem type_any (o d : Int) (oc oh : Option Addr) (kc kh : Nat) (cs : List (Int × Int)) (hs : List Int) (w : World) (hc : Twos w oc cs) (hh : Ints w oh hs) :
    Calls Try.prog 14 #[calV o oc cs.length kc oh hs.length kh, .int .i64 d] w (Ret (typeV o cs hs d) w) := by
  have HC := Lib.hid hc
  have HH := Lib.hid hh
  clear hc hh
  obtain ⟨r, hr⟩ : ∃ r, typeV o cs hs d = r := ⟨_, rfl⟩
  rw [hr]
  have HR := Lib.hid hr
  clear hr
  go_enter Try.func14, Try.ntmps14
  go_wp2_with fail
  have hnew := Below.alloc (Below.refl w.heap.size w) (Nat.le_refl _) (.cells #[.int .i64 o, .slice oc cs.length kc, .slice oh hs.length kh] 25)
  refine (valid_any o oc oh kc kh cs hs _ (HC.out.later hnew) (HH.out.later hnew)).mono ?_
  rintro e w1 ⟨rfl, hb1⟩
  have HX1 := Lib.hid ((Box3.new ..).later hb1)
  clear hb1 hnew
  obtain ⟨p, hp⟩ : ∃ p, validCal o cs hs = p := ⟨_, rfl⟩
  rw [hp]
  have HP := Lib.hid hp
  clear hp
  cases p with
  | false =>
    go_wp2
    go_ret2
    exact ⟨by rw [← HR.out, typeV_bad (by rw [HP.out]; rfl)]; rfl, HX1.out.below⟩
  | true =>
    go_wp2_with fail
    refine (inside_any d (-1) 36501 _).mono ?_
    rintro e w2 ⟨rfl, rfl⟩
    obtain ⟨q, hq⟩ : ∃ q, inBand d (-1) 36501 = q := ⟨_, rfl⟩
    rw [hq]
    have HQ := Lib.hid hq
    clear hq
    cases q with
    | false =>
      go_wp2
      go_ret2
      exact ⟨by rw [← HR.out, typeV_bad (by rw [HP.out, HQ.out]; rfl)]; rfl, HX1.out.below⟩
    | true =>
      obtain ⟨v1, v2, v3, v4, v5, v6⟩ := valid_parts HP.out
      obtain ⟨c, hcut, hcz, hcs⟩ := cut_has (d := d) v6
      have hd := band_iff.1 HQ.out
      obtain ⟨f, hf⟩ : ∃ f, hs.contains d = f := ⟨_, rfl⟩
      rw [hf] at hcz hcs
      have HF : Hid (r = .tuple #[.int .i64 (if f then 2 else weekOf (d % 7)), .int .i64 0]) := by
        refine Lib.hid ?_
        rw [← HR.out, ← hf]
        exact typeV_ok (by rw [HP.out, HQ.out]; rfl)
      have HCUT := Lib.hid hcut
      have HCZ := Lib.hid hcz
      have HCS := Lib.hid hcs
      clear hcut hcz hcs hf v3 v4 v5 v6
      obtain ⟨i, hi⟩ : ∃ i : Nat, d % 7 = (i : Int) := ⟨(d % 7).toNat, by omega⟩
      have hil : i < 7 := by omega
      rw [hi] at HF
      have hspl : ∀ w', Calls Try.prog 27 #[.int .i64 d, .int .i64 7] w' (Ret (.tuple #[.int .i64 (d / 7), .int .i64 (i : Int)]) w') := fun w' => by
        rw [← hi]; exact split_any d 7 (by omega) (by omega) (by omega) (by omega) w'
      have HS := Lib.hid hspl
      clear hspl hi
      have c2 := HX1.out.c2
      go_wp2_with fail
      refine (keys_any _).mono ?_
      rintro e w2 ⟨rfl, rfl⟩
      go_wp2_with fail
      refine (lastH_any oh kh hs d c _ (by omega) (HH.out.later HX1.out.below) HCUT.out).mono ?_
      rintro e w2 ⟨rfl, hb2⟩
      have HX2 := Lib.hid (HX1.out.later hb2)
      clear hb2 c2
      cases c with
      | zero =>
        obtain rfl := HCZ.out rfl
        rw [show ((0 : Nat) : Int) - 1 = -1 from rfl]
        go_wp2_with fail
        refine (week_any _).mono ?_
        rintro e w3 ⟨rfl, hb3⟩
        have HX3 := Lib.hid (HX2.out.later hb3)
        clear hb3
        go_wp2_with fail
        refine (HS.out _).mono ?_
        rintro e w4 ⟨rfl, hb4⟩
        have HX4 := Lib.hid ((HX3.out.alloc _).later hb4)
        have hcell := week_cell hb4 i hil
        clear hb4
        obtain ⟨y, hy⟩ : ∃ y, weekOf (i : Int) = y := ⟨_, rfl⟩
        rw [hy] at hcell HF
        clear hy
        go_wp2
        go_ret2
        exact ⟨by rw [HF.out]; rfl, HX4.out.below⟩
      | succ j =>
        have hjl : j < hs.length := by have := HCUT.out.len; omega
        obtain ⟨g, off, hg, h1⟩ := (HH.out.later HX2.out.below) j hjl
        subst hg
        have hfx := HCS.out j rfl
        obtain ⟨x, hx⟩ : ∃ x, hs.getD j 0 = x := ⟨_, rfl⟩
        rw [hx] at h1 hfx
        clear hx
        have c2 := HX2.out.c2
        rw [show ((j + 1 : Nat) : Int) - 1 = (j : Int) by omega]
        cases f with
        | true =>
          obtain rfl : x = d := by simpa using hfx.symm
          clear hfx
          go_wp2
          go_ret2
          exact ⟨by rw [HF.out]; rfl, HX2.out.below⟩
        | false =>
          have hne : (x == d) = false := hfx.symm
          clear hfx
          go_wp2_with fail
          refine (week_any _).mono ?_
          rintro e w3 ⟨rfl, hb3⟩
          have HX3 := Lib.hid (HX2.out.later hb3)
          clear hb3 c2 h1
          go_wp2_with fail
          refine (HS.out _).mono ?_
          rintro e w4 ⟨rfl, hb4⟩
          have HX4 := Lib.hid ((HX3.out.alloc _).later hb4)
          have hcell := week_cell hb4 i hil
          clear hb4
          obtain ⟨y, hy⟩ : ∃ y, weekOf (i : Int) = y := ⟨_, rfl⟩
          rw [hy] at hcell HF
          clear hy
          go_wp2
          go_ret2
          exact ⟨by rw [HF.out]; rfl, HX4.out.below⟩

set_option maxHeartbeats 1000000 in
theorem refLocal_any (o m : Int) (oc oh : Option Addr) (kc kh : Nat) (cs : List (Int × Int)) (hs : List Int) (w : World) (hc : Twos w oc cs) (hh : Ints w oh hs) :
    Calls Try.prog 13 #[calV o oc cs.length kc oh hs.length kh, .int .i64 m] w (Ret (localV o cs hs m) w) := by
  have HC := Lib.hid hc
  have HH := Lib.hid hh
  clear hc hh
  obtain ⟨r, hr⟩ : ∃ r, localV o cs hs m = r := ⟨_, rfl⟩
  rw [hr]
  have HR := Lib.hid hr
  clear hr
  go_enter Try.func13, Try.ntmps13
  go_wp2_with fail
  have hnew := Below.alloc (Below.refl w.heap.size w) (Nat.le_refl _) (.cells #[.int .i64 o, .slice oc cs.length kc, .slice oh hs.length kh] 25)
  refine (refValid_any o oc oh kc kh cs hs _ (HC.out.later hnew) (HH.out.later hnew)).mono ?_
  rintro e w1 ⟨rfl, hb1⟩
  have HX1 := Lib.hid ((Box3.new ..).later hb1)
  clear hb1 hnew
  obtain ⟨p, hp⟩ : ∃ p, validCal o cs hs = p := ⟨_, rfl⟩
  rw [hp]
  have HP := Lib.hid hp
  clear hp
  cases p with
  | false =>
    go_wp2
    go_ret3
    exact ⟨by rw [← HR.out, localV_bad (by rw [HP.out]; rfl)]; rfl, HX1.out.below⟩
  | true =>
    by_cases t1 : m < 0
    · have HQ : Hid (inBand m 0 52560000 = false) := Lib.hid (by simp [inBand]; omega)
      go_wp2
      go_ret3
      exact ⟨by rw [← HR.out, localV_bad (by rw [HP.out, HQ.out]; rfl)]; rfl, HX1.out.below⟩
    by_cases t2 : 52560000 < m
    · have HQ : Hid (inBand m 0 52560000 = false) := Lib.hid (by simp [inBand]; omega)
      go_wp2
      go_ret3
      exact ⟨by rw [← HR.out, localV_bad (by rw [HP.out, HQ.out]; rfl)]; rfl, HX1.out.below⟩
    have HQ : Hid (inBand m 0 52560000 = true) := Lib.hid (by simp [inBand]; omega)
    obtain ⟨v1, v2, v3, v4, v5, v6⟩ := valid_parts HP.out
    have hband := band_iff.1 (offAt_band (m := m) v3 v4)
    obtain ⟨f, hf⟩ : ∃ f, offAt m o cs = f := ⟨_, rfl⟩
    rw [hf] at hband
    have HF : Hid (r = .tuple #[.int .i64 ((m + f) / 1440), .int .i64 ((m + f) % 1440), .int .i64 0]) := by
      refine Lib.hid ?_
      rw [← HR.out, ← hf]
      exact localV_ok (by rw [HP.out, HQ.out]; rfl)
    have HOF := Lib.hid hf
    obtain ⟨l, hl⟩ : ∃ l, m + f = l := ⟨_, rfl⟩
    rw [hl] at HF
    have hw := IntWalk.i64_in l (by omega)
    have hlb : -1440 ≤ l ∧ l ≤ 60000000 := by omega
    clear v3 v4 v5 v6 hf
    have c0 := HX1.out.c0
    have c1 := HX1.out.c1
    have c2 := HX1.out.c2
    have s1 : ¬ (m < 0) := t1
    go_wp2_with fail
    refine (refOff_any o m oc oh kc kh cs hs _ (by omega) (HC.out.later HX1.out.below)).mono ?_
    rintro e w2 ⟨rfl, hb2⟩
    rw [HOF.out]
    have HX2 := Lib.hid (HX1.out.later hb2)
    clear hb2 c0 c1 c2
    by_cases t3 : l < 0
    · have e1 : IntKind.i64.wrap (l - -1440) = l + 1440 := (IntWalk.i64_in _ (by omega)).trans (by omega)
      have HE : Hid (l / 1440 = -1 ∧ l % 1440 = l + 1440) := Lib.hid (by omega)
      go_wp2
      go_ret3
      obtain ⟨ea, eb⟩ := HE.out
      exact ⟨by rw [HF.out, ea, eb]; rfl, HX2.out.below⟩
    · obtain ⟨a, ha⟩ : ∃ a, l.tdiv 1440 = a := ⟨_, rfl⟩
      have hae : l / 1440 = a := by rw [← ha]; exact (Int.tdiv_eq_ediv_of_nonneg (by omega)).symm
      obtain ⟨z, hz⟩ : ∃ z, 1440 * a = z := ⟨_, rfl⟩
      have e1 : IntKind.i64.wrap a = a := IntWalk.i64_in _ (by omega)
      have e2 : IntKind.i64.wrap z = z := IntWalk.i64_in _ (by omega)
      have e3 : IntKind.i64.wrap (l - z) = l - z := IntWalk.i64_in _ (by omega)
      have HE : Hid (l / 1440 = a ∧ l % 1440 = l - z) := Lib.hid (by omega)
      clear hae
      go_wp2
      go_ret3
      obtain ⟨ea, eb⟩ := HE.out
      exact ⟨by rw [HF.out, ea, eb]; rfl, HX2.out.below⟩

set_option maxHeartbeats 1000000 in
theorem refType_any (o d : Int) (oc oh : Option Addr) (kc kh : Nat) (cs : List (Int × Int)) (hs : List Int) (w : World) (hc : Twos w oc cs) (hh : Ints w oh hs) :
    Calls Try.prog 15 #[calV o oc cs.length kc oh hs.length kh, .int .i64 d] w (Ret (typeV o cs hs d) w) := by
  have HC := Lib.hid hc
  have HH := Lib.hid hh
  clear hc hh
  obtain ⟨r, hr⟩ : ∃ r, typeV o cs hs d = r := ⟨_, rfl⟩
  rw [hr]
  have HR := Lib.hid hr
  clear hr
  go_enter Try.func15, Try.ntmps15
  go_wp2_with fail
  have hnew := Below.alloc (Below.refl w.heap.size w) (Nat.le_refl _) (.cells #[.int .i64 o, .slice oc cs.length kc, .slice oh hs.length kh] 25)
  refine (refValid_any o oc oh kc kh cs hs _ (HC.out.later hnew) (HH.out.later hnew)).mono ?_
  rintro e w1 ⟨rfl, hb1⟩
  have HX1 := Lib.hid ((Box3.new ..).later hb1)
  clear hb1 hnew
  obtain ⟨p, hp⟩ : ∃ p, validCal o cs hs = p := ⟨_, rfl⟩
  rw [hp]
  have HP := Lib.hid hp
  clear hp
  cases p with
  | false =>
    go_wp2
    go_ret2
    exact ⟨by rw [← HR.out, typeV_bad (by rw [HP.out]; rfl)]; rfl, HX1.out.below⟩
  | true =>
    by_cases t1 : d < -1
    · have t1b : decide (d < -1) = true := by simpa using t1
      have HQ : Hid (inBand d (-1) 36501 = false) := Lib.hid (by simp [inBand]; omega)
      go_wp2
      go_ret2
      exact ⟨by rw [← HR.out, typeV_bad (by rw [HP.out, HQ.out]; rfl)]; rfl, HX1.out.below⟩
    by_cases t2 : 36501 < d
    · have t1b : decide (d < -1) = false := by simp; omega
      have HQ : Hid (inBand d (-1) 36501 = false) := Lib.hid (by simp [inBand]; omega)
      go_wp2
      go_ret2
      exact ⟨by rw [← HR.out, typeV_bad (by rw [HP.out, HQ.out]; rfl)]; rfl, HX1.out.below⟩
    have HQ : Hid (inBand d (-1) 36501 = true) := Lib.hid (by simp [inBand]; omega)
    obtain ⟨v1, v2, v3, v4, v5, v6⟩ := valid_parts HP.out
    have HF := Lib.hid (HR.out.symm.trans (typeV_ok (by rw [HP.out, HQ.out]; rfl)))
    clear v3 v4 v5 v6
    have t1i : -1 ≤ d := by omega
    have t2i : d ≤ 36501 := by omega
    have t1b : decide (d < -1) = false := by simp; omega
    have t2b : decide (36501 < d) = false := by simp; omega
    go_wp2
    clear t1b t2b
    go_loopw [6] (fun i wr => ∃ k : Nat, k ≤ hs.length ∧ i = .int .i64 k ∧ hs.contains d = (hs.drop k).contains d ∧ Box3 w wr (.int .i64 o) (.slice oc cs.length kc) (.slice oh hs.length kh)) (fun i _ => hs.length - (intOf i).toNat)
    case atStart => exact ⟨0, Nat.zero_le _, rfl, rfl, HX1.out⟩
    case round =>
      obtain ⟨k, hk, rfl, hcon, hx⟩ := hrel
      have HCON := Lib.hid hcon
      have HX := Lib.hid hx
      clear hcon hx
      have c2 := HX.out.c2
      by_cases hlt : k < hs.length
      · obtain ⟨g, off, hg, h1⟩ := (HH.out.later HX.out.below) k hlt
        subst hg
        obtain ⟨x, hx⟩ : ∃ x, hs.getD k 0 = x := ⟨_, rfl⟩
        rw [hx] at h1
        have HXX := Lib.hid hx
        clear hx
        by_cases t : x = d
        · have HT : Hid (hs.contains d = true) := Lib.hid (by rw [HCON.out, drop_getD hs k hlt 0, List.contains_cons, HXX.out, t]; simp)
          subst t
          go_wp2
          go_ret2
          exact ⟨by rw [HF.out, HT.out]; rfl, HX.out.below⟩
        · have t' : (x == d) = false := by simpa using t
          have HT : Hid (hs.contains d = (hs.drop (k + 1)).contains d) := Lib.hid (by rw [HCON.out, drop_getD hs k hlt 0, List.contains_cons, HXX.out, show (d == x) = false by simp; omega]; rfl)
          clear t
          go_wp2
          go_roundw
          case rel => exact ⟨k + 1, by omega, by go_num, HT.out, HX.out⟩
          case measure => simp [intOf]; omega
      · obtain rfl : k = hs.length := by omega
        have HT : Hid (r = .tuple #[.int .i64 (weekOf (d % 7)), .int .i64 0]) := Lib.hid (by rw [HF.out, HCON.out, List.drop_length]; rfl)
        obtain ⟨y, hy⟩ : ∃ y, (d + 7).tmod 7 = y := ⟨_, rfl⟩
        have hyd : d % 7 = y := by rw [← hy, Int.tmod_eq_emod_of_nonneg (by omega)]; omega
        rw [hyd] at HT
        have e1 : IntKind.i64.wrap (d + 7) = d + 7 := IntWalk.i64_in _ (by omega)
        have e2 : IntKind.i64.wrap y = y := IntWalk.i64_in _ (by omega)
        clear hyd
        by_cases t6 : y = 6
        · have t6' : (y == 6) = true := by simpa using t6
          have HY := Lib.hid t6
          clear t6
          go_wp2
          go_ret2
          exact ⟨by rw [HT.out, HY.out]; rfl, HX.out.below⟩
        by_cases t5 : y = 5
        · have t5' : (y == 5) = true := by simpa using t5
          have t6' : (y == 6) = false := by simpa using t6
          have HY := Lib.hid t5
          clear t5 t6
          go_wp2
          go_ret2
          exact ⟨by rw [HT.out, HY.out]; rfl, HX.out.below⟩
        · have t5' : (y == 5) = false := by simpa using t5
          have t6' : (y == 6) = false := by simpa using t6
          have HY : Hid (weekOf y = 0) := Lib.hid (by simp [weekOf, t5, t6])
          clear t5 t6
          go_wp2
          go_ret2
          exact ⟨by rw [HT.out, HY.out]; rfl, HX.out.below⟩

end Go.Proofs.Ytgjnekfmnepjeaa
