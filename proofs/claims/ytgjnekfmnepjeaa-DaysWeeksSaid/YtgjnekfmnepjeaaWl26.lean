/- Chapter 26: DaysWeeks, walked. -/
import Derived.Test.YtgjnekfmnepjeaaWi26
import Derived.Test.YtgjnekfmnepjeaaPlainD26
namespace Go.Proofs.Ytgjnekfmnepjeaa
open Go.RowKit

set_option maxHeartbeats 2000000 in
theorem DaysWeeks_any (o n : Int) (oc oh : Option Addr) (kc kh : Nat) (cs : List (Int × Int)) (hs : List Int) (w : World) (hc : Twos w oc cs) (_ : Ints w oh hs) (h0 : 0 ≤ n) (h1 : n < 65536) :
    Calls Try.prog 7 #[calV o oc cs.length kc oh hs.length kh, .int .u16 n] w (Ret (.bool true) w) := by
  have HC := Lib.hid hc
  obtain ⟨q, hq⟩ : ∃ q, validCal o cs [] = q := ⟨_, rfl⟩
  have HQ := Lib.hid hq
  obtain ⟨r, hr⟩ : ∃ r, n.tmod 36480 = r := ⟨_, rfl⟩
  have hre : n % 36480 = r := by rw [← hr, Int.tmod_eq_emod_of_nonneg h0]
  obtain ⟨day, hd⟩ : ∃ day, r - 1 = day := ⟨_, rfl⟩
  have hdb : -1 ≤ day ∧ day ≤ 36478 := by omega
  have e1 : IntKind.i64.wrap n = n := IntWalk.i64_in _ (by omega)
  have e2 : IntKind.i64.wrap r = r := IntWalk.i64_in _ (by omega)
  have e3 : IntKind.i64.wrap day = day := IntWalk.i64_in _ (by omega)
  clear hc hq hre
  go_enter Try.func7, Try.ntmps7
  go_wp2_with fail
  refine (head_any _).mono ?_
  rintro e w1 ⟨rfl, hb⟩
  have hblk := (Blk.new w 25 #[.int .i64 o, .slice oc cs.length kc, .slice oh hs.length kh]).later hb
  have hfr := hblk.frozen 2
  have hB := below_step (newBelow ..) hb
  have hset := hblk.set 2 (.slice none 0 0)
  have HX : Hid (Box3 w (w1.setCell ⟨w.heap.size, 2, none⟩ (.slice none 0 0)) (.int .i64 o) (.slice oc cs.length kc) (.slice none 0 0)) :=
    Lib.hid ⟨hset.cell 0, hset.cell 1, hset.cell 2, hB.setCell (Nat.le_refl _) _⟩
  have hold := hblk.cell 2
  simp at hold
  clear hb hblk hB hset
  have c0 := HX.out.c0
  have c1 := HX.out.c1
  have c2 := HX.out.c2
  go_wp2_with fail
  refine (usable_any o oc none kc 0 cs [] _ (HC.out.later HX.out.below) Ints.nil).mono ?_
  rintro e w2 ⟨rfl, hb⟩
  rw [HQ.out]
  replace HX := Lib.hid (HX.out.later hb)
  clear hb c0 c1 c2 hold hfr e1 e2 hr hd
  cases q with
  | false =>
    go_wp2
    go_ret
    exact ⟨rfl, HX.out.below⟩
  | true =>
    go_wp2
    clear e3
    go_loopw [7, 8, 26] (fun a b i wr => ∃ k : Nat, k ≤ 7 ∧ i = .int .i64 k ∧ a = .int .i64 (cnt 0 day k) ∧ b = .int .i64 (cnt 1 day k) ∧ Box3 w wr (.int .i64 o) (.slice oc cs.length kc) (.slice none 0 0)) (fun _ _ i _ => 7 - (intOf i).toNat)
    case atStart => exact ⟨0, by omega, rfl, rfl, rfl, HX.out⟩
    case round =>
      obtain ⟨k, hk, rfl, rfl, rfl, hx⟩ := hrel
      replace HX := Lib.hid hx
      clear hx
      by_cases hlt : k < 7
      · obtain ⟨x, hx⟩ : ∃ x, day + (k : Int) = x := ⟨_, rfl⟩
        have hxb : -1 ≤ x ∧ x ≤ 36484 := by omega
        have e1 : IntKind.i64.wrap x = x := IntWalk.i64_in _ (by omega)
        have e2 : IntKind.i64.wrap (x + 7) = x + 7 := IntWalk.i64_in _ (by omega)
        have e3 : IntKind.i64.wrap (x + 1) = x + 1 := IntWalk.i64_in _ (by omega)
        have HS0 := Lib.hid (cnt_step (t := 0) hx)
        have HS1 := Lib.hid (cnt_step (t := 1) hx)
        obtain ⟨A, hA⟩ : ∃ A, weekOf (x % 7) = A := ⟨_, rfl⟩
        obtain ⟨B, hB⟩ : ∃ B, weekOf ((x + 1) % 7) = B := ⟨_, rfl⟩
        have hpair := week_pair x
        rw [hA, hB] at hpair
        rw [hA] at HS0 HS1
        have HT0 : Hid (typeV o cs [] x = .tuple #[.int .i64 A, .int .i64 0]) := Lib.hid (by rw [typeV_ok (by rw [HQ.out, band_iff.2 ⟨by omega, by omega⟩]; rfl), hA]; rfl)
        have HT7 : Hid (typeV o cs [] (x + 7) = .tuple #[.int .i64 A, .int .i64 0]) := Lib.hid (by rw [typeV_ok (by rw [HQ.out, band_iff.2 ⟨by omega, by omega⟩]; rfl), show (x + 7) % 7 = x % 7 by omega, hA]; rfl)
        have HT1 : Hid (typeV o cs [] (x + 1) = .tuple #[.int .i64 B, .int .i64 0]) := Lib.hid (by rw [typeV_ok (by rw [HQ.out, band_iff.2 ⟨by omega, by omega⟩]; rfl), hB]; rfl)
        have b0 := cnt_bound 0 day k
        have b1 := cnt_bound 1 day k
        obtain ⟨p, hp⟩ : ∃ p, cnt 0 day k = p := ⟨_, rfl⟩
        obtain ⟨s, hs'⟩ : ∃ s, cnt 1 day k = s := ⟨_, rfl⟩
        rw [hp] at b0 HS0
        rw [hs'] at b1 HS1
        rw [hp, hs']
        have e4 : IntKind.i64.wrap (p + 1) = p + 1 := IntWalk.i64_in _ (by omega)
        have e5 : IntKind.i64.wrap (s + 1) = s + 1 := IntWalk.i64_in _ (by omega)
        clear hA hB hp hs'
        have c0 := HX.out.c0
        have c1 := HX.out.c1
        have c2 := HX.out.c2
        go_wp2_with fail
        refine (type_any o x oc none kc 0 cs [] _ (HC.out.later HX.out.below) Ints.nil).mono ?_
        rintro e w1 ⟨rfl, hb⟩
        rw [HT0.out]
        replace HX := Lib.hid (HX.out.later hb)
        clear hb c0 c1 c2
        have c0 := HX.out.c0
        have c1 := HX.out.c1
        have c2 := HX.out.c2
        go_wp2_with fail
        refine (type_any o (x + 7) oc none kc 0 cs [] _ (HC.out.later HX.out.below) Ints.nil).mono ?_
        rintro e w1 ⟨rfl, hb⟩
        rw [HT7.out]
        replace HX := Lib.hid (HX.out.later hb)
        clear hb c0 c1 c2
        have c0 := HX.out.c0
        have c1 := HX.out.c1
        have c2 := HX.out.c2
        go_wp2_with fail
        refine (type_any o (x + 1) oc none kc 0 cs [] _ (HC.out.later HX.out.below) Ints.nil).mono ?_
        rintro e w1 ⟨rfl, hb⟩
        rw [HT1.out]
        replace HX := Lib.hid (HX.out.later hb)
        clear hb c0 c1 c2
        rcases hpair with ⟨rfl, rfl⟩ | ⟨rfl, rfl⟩ | ⟨rfl, rfl⟩ | ⟨rfl, rfl⟩
        · go_wp2
          go_roundw
          case rel => exact ⟨k + 1, by omega, by go_num, by rw [HS0.out]; rfl, by rw [HS1.out]; simp, HX.out⟩
          case measure => simp [intOf]; omega
        · go_wp2
          go_roundw
          case rel => exact ⟨k + 1, by omega, by go_num, by rw [HS0.out]; rfl, by rw [HS1.out]; simp, HX.out⟩
          case measure => simp [intOf]; omega
        · go_wp2
          go_roundw
          case rel => exact ⟨k + 1, by omega, by go_num, by rw [HS0.out]; simp, by rw [HS1.out]; rfl, HX.out⟩
          case measure => simp [intOf]; omega
        · go_wp2
          go_roundw
          case rel => exact ⟨k + 1, by omega, by go_num, by rw [HS0.out]; simp, by rw [HS1.out]; simp, HX.out⟩
          case measure => simp [intOf]; omega
      · obtain rfl : k = 7 := by omega
        obtain ⟨s1, s2⟩ := week_seven day
        rw [s1, s2]
        clear s1 s2
        go_wp2
        go_ret
        exact ⟨rfl, HX.out.below⟩

end Go.Proofs.Ytgjnekfmnepjeaa
