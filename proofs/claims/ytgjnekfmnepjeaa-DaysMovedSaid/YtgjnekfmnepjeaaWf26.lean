/- Chapter 26: Few, Offset, Local and Type of the reference; Local and Type. -/
import Derived.Test.YtgjnekfmnepjeaaWe26
import Derived.Test.YtgjnekfmnepjeaaWc26
import Derived.Test.YtgjnekfmnepjeaaPlainB26
namespace Go.Proofs.Ytgjnekfmnepjeaa
open Go.RowKit

def fewB (cs : List (Int × Int)) (hs : List Int) : Bool := decide (cs.length ≤ 30) && decide (hs.length ≤ 60)

set_option maxHeartbeats 1000000 in
theorem few_any (o : Int) (oc oh : Option Addr) (kc kh : Nat) (cs : List (Int × Int)) (hs : List Int) (w : World) :
    Calls Try.prog 11 #[calV o oc cs.length kc oh hs.length kh] w (Ret (.bool (fewB cs hs)) w) := by
  by_cases l1 : cs.length ≤ 30
  · have l1i : (cs.length : Int) ≤ 30 := by omega
    by_cases l2 : hs.length ≤ 60
    · have l2i : (hs.length : Int) ≤ 60 := by omega
      rw [show fewB cs hs = true by simp [fewB, l1, l2]]
      go_enter Try.func11, Try.ntmps11
      go_wp2
      go_ret
      exact ⟨rfl, below_alloc (Below.refl _ _) _⟩
    · have l2i : (60 : Int) < hs.length := by omega
      have l2b : decide ((hs.length : Int) ≤ 60) = false := by simp; omega
      rw [show fewB cs hs = false by simp [fewB, l2]]
      go_enter Try.func11, Try.ntmps11
      go_wp2
      go_ret
      exact ⟨rfl, below_alloc (Below.refl _ _) _⟩
  · have l1i : (30 : Int) < cs.length := by omega
    have l1b : decide ((cs.length : Int) ≤ 30) = false := by simp; omega
    rw [show fewB cs hs = false by simp [fewB, l1]]
    go_enter Try.func11, Try.ntmps11
    go_wp2
    go_ret
    exact ⟨rfl, below_alloc (Below.refl _ _) _⟩

set_option maxHeartbeats 1000000 in
theorem refOff_any (o m : Int) (oc oh : Option Addr) (kc kh : Nat) (cs : List (Int × Int)) (hs : List Int) (w : World) (hl : cs.length ≤ 100) (hc : Twos w oc cs) :
    Calls Try.prog 28 #[calV o oc cs.length kc oh hs.length kh, .int .i64 m] w (Ret (.int .i64 (offAt m o cs)) w) := by
  obtain ⟨r, hr⟩ : ∃ r, offAt m o cs = r := ⟨_, rfl⟩
  rw [hr]
  have HR := Lib.hid hr
  have HC := Lib.hid hc
  clear hr hc
  go_enter Try.func28, Try.ntmps28
  go_wp2
  go_loopw [5, 6] (fun u i wr => ∃ (k : Nat) (z : Int), k ≤ cs.length ∧ i = .int .i64 k ∧ u = .int .i64 z ∧ offAt m o cs = offAt m z (cs.drop k) ∧ Box3 w wr (.int .i64 o) (.slice oc cs.length kc) (.slice oh hs.length kh)) (fun _ i _ => cs.length - (intOf i).toNat)
  case atStart => exact ⟨0, o, Nat.zero_le _, rfl, rfl, rfl, Box3.new ..⟩
  case round =>
    obtain ⟨k, z, hk, rfl, rfl, ho, hx⟩ := hrel
    have HO := Lib.hid ho
    have HX := Lib.hid hx
    clear ho hx
    have c1 := HX.out.c1
    by_cases hlt : k < cs.length
    · obtain ⟨g, off, hg, h1, h2⟩ := (HC.out.later HX.out.below) k hlt
      subst hg
      obtain ⟨x, hx⟩ : ∃ x, (cs.getD k (0, 0)).1 = x := ⟨_, rfl⟩
      obtain ⟨y, hy⟩ : ∃ y, (cs.getD k (0, 0)).2 = y := ⟨_, rfl⟩
      rw [hx] at h1
      rw [hy] at h2
      have HXX := Lib.hid hx
      have HYY := Lib.hid hy
      clear hx hy
      by_cases t : x ≤ m
      · go_wp2
        go_roundw
        case rel => exact ⟨k + 1, y, by omega, by go_num, rfl, by rw [HO.out, drop_getD cs k hlt (0, 0), offAt, HXX.out, HYY.out, if_pos t], HX.out⟩
        case measure => simp [intOf]; omega
      · go_wp2
        go_roundw
        case rel => exact ⟨k + 1, z, by omega, by go_num, rfl, by rw [HO.out, drop_getD cs k hlt (0, 0), offAt, HXX.out, if_neg t], HX.out⟩
        case measure => simp [intOf]; omega
    · obtain rfl : k = cs.length := by omega
      go_wp2
      go_ret
      obtain rfl : r = z := by rw [← HR.out, HO.out, List.drop_length]; rfl
      exact ⟨rfl, HX.out.below⟩

def localV (o : Int) (cs : List (Int × Int)) (hs : List Int) (m : Int) : Value := .tuple #[.int .i64 (localOf o cs hs m).1, .int .i64 (localOf o cs hs m).2.1, .int .i64 (localOf o cs hs m).2.2]
def typeV (o : Int) (cs : List (Int × Int)) (hs : List Int) (d : Int) : Value := .tuple #[.int .i64 (typeOf o cs hs d).1, .int .i64 (typeOf o cs hs d).2]

theorem localV_bad {o : Int} {cs : List (Int × Int)} {hs : List Int} {m : Int} (h : (validCal o cs hs && inBand m 0 52560000) = false) : localV o cs hs m = .tuple #[.int .i64 0, .int .i64 0, .int .i64 1] := by
  unfold localV localOf; rw [h]; rfl
theorem localV_ok {o : Int} {cs : List (Int × Int)} {hs : List Int} {m : Int} (h : (validCal o cs hs && inBand m 0 52560000) = true) : localV o cs hs m = .tuple #[.int .i64 ((m + offAt m o cs) / 1440), .int .i64 ((m + offAt m o cs) % 1440), .int .i64 0] := by
  unfold localV localOf; rw [h]; rfl

set_option maxHeartbeats 1000000 in
theorem local_any (o m : Int) (oc oh : Option Addr) (kc kh : Nat) (cs : List (Int × Int)) (hs : List Int) (w : World) (hc : Twos w oc cs) (hh : Ints w oh hs) :
    Calls Try.prog 12 #[calV o oc cs.length kc oh hs.length kh, .int .i64 m] w (Ret (localV o cs hs m) w) := by
  have HC := Lib.hid hc
  have HH := Lib.hid hh
  clear hc hh
  obtain ⟨r, hr⟩ : ∃ r, localV o cs hs m = r := ⟨_, rfl⟩
  rw [hr]
  have HR := Lib.hid hr
  clear hr
  go_enter Try.func12, Try.ntmps12
  go_wp2_with fail
  have hnew := Below.alloc (Below.refl w.heap.size w) (Nat.le_refl _) (.cells #[.int .i64 o, .slice oc cs.length kc, .slice oh hs.length kh] 25)
  refine (valid_any o oc oh kc kh cs hs _ (HC.out.later hnew) (HH.out.later hnew)).mono ?_
  rintro e w1 ⟨rfl, hb1⟩
  have HX1 := Lib.hid ((Box3.new ..).later hb1)
  clear hb1 hnew
  obtain ⟨p, hp⟩ : ∃ p, validCal o cs hs = p := ⟨_, rfl⟩
  rw [hp]
  have HP := Lib.hid hp
  clear hp
  cases p with
  | false =>
    go_wp2
    go_ret3
    exact ⟨by rw [← HR.out, localV_bad (by rw [HP.out]; rfl)]; rfl, HX1.out.below⟩
  | true =>
    go_wp2_with fail
    refine (inside_any m 0 52560000 _).mono ?_
    rintro e w2 ⟨rfl, rfl⟩
    obtain ⟨q, hq⟩ : ∃ q, inBand m 0 52560000 = q := ⟨_, rfl⟩
    rw [hq]
    have HQ := Lib.hid hq
    clear hq
    cases q with
    | false =>
      go_wp2
      go_ret3
      exact ⟨by rw [← HR.out, localV_bad (by rw [HP.out, HQ.out]; rfl)]; rfl, HX1.out.below⟩
    | true =>
      obtain ⟨v1, v2, v3, v4, v5, v6⟩ := valid_parts HP.out
      obtain ⟨c, hcut, hcz, hcs⟩ := cut_off (m := m) (o := o) v5
      have hband := band_iff.1 (offAt_band (m := m) v3 v4)
      have hm := band_iff.1 HQ.out
      obtain ⟨f, hf⟩ : ∃ f, offAt m o cs = f := ⟨_, rfl⟩
      rw [hf] at hband hcz hcs
      have HF : Hid (r = .tuple #[.int .i64 ((m + f) / 1440), .int .i64 ((m + f) % 1440), .int .i64 0]) := by
        refine Lib.hid ?_
        rw [← HR.out, ← hf]
        exact localV_ok (by rw [HP.out, HQ.out]; rfl)
      have HCUT := Lib.hid hcut
      have HCZ := Lib.hid hcz
      have HCS := Lib.hid hcs
      have hw := IntWalk.i64_in (m + f) (by omega)
      clear hcut hcz hcs hf v3 v4 v5 v6
      have c0 := HX1.out.c0
      have c1 := HX1.out.c1
      go_wp2_with fail
      refine (keys_any _).mono ?_
      rintro e w2 ⟨rfl, rfl⟩
      go_wp2_with fail
      refine (lastC_any oc kc cs m c _ (by omega) (HC.out.later HX1.out.below) HCUT.out).mono ?_
      rintro e w2 ⟨rfl, hb2⟩
      have HX2 := Lib.hid (HX1.out.later hb2)
      clear hb2 c0 c1
      cases c with
      | zero =>
        obtain rfl := HCZ.out rfl
        rw [show ((0 : Nat) : Int) - 1 = -1 from rfl]
        go_wp2_with fail
        refine (split_any (m + f) 1440 (by omega) (by omega) (by omega) (by omega) _).mono ?_
        rintro e w3 ⟨rfl, hb3⟩
        have HX3 := Lib.hid (HX2.out.later hb3)
        clear hb3
        obtain ⟨a, ha⟩ : ∃ a, (m + f) / 1440 = a := ⟨_, rfl⟩
        obtain ⟨b, hb⟩ : ∃ b, (m + f) % 1440 = b := ⟨_, rfl⟩
        rw [ha, hb] at HF ⊢
        clear ha hb
        go_wp2
        go_ret3
        exact ⟨by rw [HF.out]; rfl, HX3.out.below⟩
      | succ j =>
        have hjl : j < cs.length := by have := HCUT.out.len; simp at this; omega
        obtain ⟨g, off, hg, h1, h2⟩ := (HC.out.later HX2.out.below) j hjl
        subst hg
        rw [← HCS.out j rfl] at h2
        have c1 := HX2.out.c1
        rw [show ((j + 1 : Nat) : Int) - 1 = (j : Int) by omega]
        clear h1
        go_wp2_with fail
        refine (split_any (m + f) 1440 (by omega) (by omega) (by omega) (by omega) _).mono ?_
        rintro e w3 ⟨rfl, hb3⟩
        have HX3 := Lib.hid (HX2.out.later hb3)
        clear hb3 c1 h2
        obtain ⟨a, ha⟩ : ∃ a, (m + f) / 1440 = a := ⟨_, rfl⟩
        obtain ⟨b, hb⟩ : ∃ b, (m + f) % 1440 = b := ⟨_, rfl⟩
        rw [ha, hb] at HF ⊢
        clear ha hb
        go_wp2
        go_ret3
        exact ⟨by rw [HF.out]; rfl, HX3.out.below⟩

end Go.Proofs.Ytgjnekfmnepjeaa
