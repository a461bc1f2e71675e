/- Chapter 26: the small functions of the laws. -/
import Derived.Test.YtgjnekfmnepjeaaWg26
namespace Go.Proofs.Ytgjnekfmnepjeaa
open Go.RowKit

theorem newBelow (w : World) (o : Obj) : Below w.heap.size w (w.alloc o) := below_alloc (Below.refl _ _) _

set_option maxHeartbeats 1000000 in
theorem at_true (o m d l : Int) (oc oh : Option Addr) (kc kh : Nat) (cs : List (Int × Int)) (hs : List Int) (w : World) (hc : Twos w oc cs) (hh : Ints w oh hs) (hv : localOf o cs hs m = (d, l, 0)) :
    Calls Try.prog 22 #[calV o oc cs.length kc oh hs.length kh, .int .i64 m, .int .i64 d, .int .i64 l] w (Ret (.bool true) w) := by
  have HV : Hid (localV o cs hs m = .tuple #[.int .i64 d, .int .i64 l, .int .i64 0]) := Lib.hid (by unfold localV; rw [hv])
  have HC := Lib.hid hc
  have HH := Lib.hid hh
  clear hc hh hv
  go_enter Try.func22, Try.ntmps22
  go_wp2_with fail
  refine (local_any o m oc oh kc kh cs hs _ (HC.out.later (newBelow ..)) (HH.out.later (newBelow ..))).mono ?_
  rintro e w1 ⟨rfl, hb1⟩
  rw [HV.out]
  have HB := Lib.hid (below_step (newBelow ..) hb1)
  clear hb1
  go_wp2
  go_ret
  exact ⟨rfl, HB.out⟩

set_option maxHeartbeats 1000000 in
theorem is_true (o d k : Int) (oc oh : Option Addr) (kc kh : Nat) (cs : List (Int × Int)) (hs : List Int) (w : World) (hc : Twos w oc cs) (hh : Ints w oh hs) (hv : typeOf o cs hs d = (k, 0)) :
    Calls Try.prog 23 #[calV o oc cs.length kc oh hs.length kh, .int .i64 d, .int .i64 k] w (Ret (.bool true) w) := by
  have HV : Hid (typeV o cs hs d = .tuple #[.int .i64 k, .int .i64 0]) := Lib.hid (by unfold typeV; rw [hv])
  have HC := Lib.hid hc
  have HH := Lib.hid hh
  clear hc hh hv
  go_enter Try.func23, Try.ntmps23
  go_wp2_with fail
  refine (type_any o d oc oh kc kh cs hs _ (HC.out.later (newBelow ..)) (HH.out.later (newBelow ..))).mono ?_
  rintro e w1 ⟨rfl, hb1⟩
  rw [HV.out]
  have HB := Lib.hid (below_step (newBelow ..) hb1)
  clear hb1
  go_wp2
  go_ret
  exact ⟨rfl, HB.out⟩

set_option maxHeartbeats 1000000 in
theorem loc_ok (o m : Int) (oc oh : Option Addr) (kc kh : Nat) (cs : List (Int × Int)) (hs : List Int) (w : World) (hc : Twos w oc cs) (hh : Ints w oh hs) (hv : validCal o cs hs = true) (hm : inBand m 0 52560000 = true) :
    Calls Try.prog 20 #[calV o oc cs.length kc oh hs.length kh, .int .i64 m] w (Ret (.tuple #[.int .i64 (m + offAt m o cs), .bool true]) w) := by
  have HV := Lib.hid (localV_ok (o := o) (cs := cs) (hs := hs) (m := m) (by rw [hv, hm]; rfl))
  have HC := Lib.hid hc
  have HH := Lib.hid hh
  obtain ⟨v1, v2, v3, v4, v5, v6⟩ := valid_parts hv
  have hband := band_iff.1 (offAt_band (m := m) v3 v4)
  have hmb := band_iff.1 hm
  obtain ⟨x, hx⟩ : ∃ x, m + offAt m o cs = x := ⟨_, rfl⟩
  rw [hx] at HV ⊢
  have hxb : -1440 ≤ x ∧ x ≤ 52561440 := by omega
  obtain ⟨d, hd⟩ : ∃ d, x / 1440 = d := ⟨_, rfl⟩
  obtain ⟨r, hr⟩ : ∃ r, x % 1440 = r := ⟨_, rfl⟩
  rw [hd, hr] at HV
  obtain ⟨z, hz⟩ : ∃ z, 1440 * d = z := ⟨_, rfl⟩
  have hzr : z + r = x := by omega
  have r0 : 0 ≤ r := by omega
  have r1 : r < 1440 := by omega
  have e1 : IntKind.i64.wrap z = z := IntWalk.i64_in _ (by omega)
  have e2 : IntKind.i64.wrap x = x := IntWalk.i64_in _ (by omega)
  clear hc hh hv hm v1 v2 v3 v4 v5 v6 hband hmb hx hd hr hxb
  go_enter Try.func20, Try.ntmps20
  go_wp2_with fail
  refine (local_any o m oc oh kc kh cs hs _ (HC.out.later (newBelow ..)) (HH.out.later (newBelow ..))).mono ?_
  rintro e w1 ⟨rfl, hb1⟩
  rw [HV.out]
  have HB := Lib.hid (below_step (newBelow ..) hb1)
  clear hb1
  go_wp2
  go_ret2
  exact ⟨rfl, HB.out⟩

theorem valid_few {o : Int} {cs : List (Int × Int)} {hs : List Int} (h : fewB cs hs = false) : validCal o cs hs = false := by
  cases hv : validCal o cs hs with
  | false => rfl
  | true =>
    obtain ⟨v1, v2, _⟩ := valid_parts hv
    simp [fewB] at h
    omega

set_option maxHeartbeats 1000000 in
theorem usable_any (o : Int) (oc oh : Option Addr) (kc kh : Nat) (cs : List (Int × Int)) (hs : List Int) (w : World) (hc : Twos w oc cs) (hh : Ints w oh hs) :
    Calls Try.prog 18 #[calV o oc cs.length kc oh hs.length kh] w (Ret (.bool (validCal o cs hs)) w) := by
  have HC := Lib.hid hc
  have HH := Lib.hid hh
  obtain ⟨p, hp⟩ : ∃ p, fewB cs hs = p := ⟨_, rfl⟩
  obtain ⟨q, hq⟩ : ∃ q, validCal o cs hs = q := ⟨_, rfl⟩
  rw [hq]
  have HP := Lib.hid hp
  have HQ := Lib.hid hq
  clear hc hh hp hq
  go_enter Try.func18, Try.ntmps18
  go_wp2_with fail
  refine (few_any o oc oh kc kh cs hs _).mono ?_
  rintro e w1 ⟨rfl, hb1⟩
  rw [HP.out]
  have HX := Lib.hid ((Box3.new ..).later hb1)
  clear hb1
  cases p with
  | false =>
    obtain rfl : q = false := HQ.out.symm.trans (valid_few HP.out)
    go_wp2
    go_ret
    exact ⟨rfl, HX.out.below⟩
  | true =>
    have c0 := HX.out.c0
    have c1 := HX.out.c1
    have c2 := HX.out.c2
    go_wp2_with fail
    refine (refValid_any o oc oh kc kh cs hs _ (HC.out.later HX.out.below) (HH.out.later HX.out.below)).mono ?_
    rintro e w2 ⟨rfl, hb2⟩
    rw [HQ.out]
    have HX2 := Lib.hid (HX.out.later hb2)
    clear hb2 c0 c1 c2
    go_wp2
    go_ret
    exact ⟨rfl, HX2.out.below⟩

set_option maxHeartbeats 1000000 in
theorem minute_any (n : Int) (h0 : 0 ≤ n) (h1 : n < 4294967296) (w : World) :
    Calls Try.prog 19 #[.int .u32 n] w fun e w' => e = .returned (.int .i64 (n % 52540000)) ∧ w' = w := by
  obtain ⟨r, hr⟩ : ∃ r, n % 52540000 = r := ⟨_, rfl⟩
  rw [hr]
  have ht : n.tmod 52540000 = r := by rw [Int.tmod_eq_emod_of_nonneg h0, hr]
  have e1 : IntKind.i64.wrap n = n := IntWalk.i64_in _ (by omega)
  have e2 : IntKind.i64.wrap r = r := IntWalk.i64_in _ (by omega)
  clear hr
  go_enter Try.func19, Try.ntmps19
  go_wp2
  go_ret
  exact ⟨rfl, rfl⟩

def chB (a b : Int) (cs : List (Int × Int)) : Bool := cs.any fun x => decide (a < x.1) && decide (x.1 ≤ b)

set_option maxHeartbeats 1000000 in
theorem change_any (o a b : Int) (oc oh : Option Addr) (kc kh : Nat) (cs : List (Int × Int)) (hs : List Int) (w : World) (hl : cs.length ≤ 100) (hc : Twos w oc cs) :
    Calls Try.prog 21 #[calV o oc cs.length kc oh hs.length kh, .int .i64 a, .int .i64 b] w (Ret (.bool (chB a b cs)) w) := by
  have HC := Lib.hid hc
  obtain ⟨r, hr⟩ : ∃ r, chB a b cs = r := ⟨_, rfl⟩
  rw [hr]
  have HR := Lib.hid hr
  clear hc hr
  go_enter Try.func21, Try.ntmps21
  go_wp2
  go_loopw [12] (fun i wr => ∃ k : Nat, k ≤ cs.length ∧ i = .int .i64 k ∧ chB a b cs = chB a b (cs.drop k) ∧ Box3 w wr (.int .i64 o) (.slice oc cs.length kc) (.slice oh hs.length kh)) (fun i _ => cs.length - (intOf i).toNat)
  case atStart => exact ⟨0, Nat.zero_le _, rfl, rfl, Box3.new ..⟩
  case round =>
    obtain ⟨k, hk, rfl, ho, hx⟩ := hrel
    have HO := Lib.hid ho
    have HX := Lib.hid hx
    clear ho hx
    by_cases hlt : k < cs.length
    · obtain ⟨g, off, hg, h1, h2⟩ := (HC.out.later HX.out.below) k hlt
      subst hg
      obtain ⟨x, hx⟩ : ∃ x, (cs.getD k (0, 0)).1 = x := ⟨_, rfl⟩
      obtain ⟨y, hy⟩ : ∃ y, (cs.getD k (0, 0)).2 = y := ⟨_, rfl⟩
      rw [hx] at h1
      rw [hy] at h2
      have HN : Hid (chB a b cs = ((decide (a < x) && decide (x ≤ b)) || chB a b (cs.drop (k + 1)))) := Lib.hid (by
        rw [HO.out, drop_getD cs k hlt (0, 0)]; unfold chB; rw [List.any_cons, hx])
      clear hx hy
      by_cases t1 : a < x
      · by_cases t2 : x ≤ b
        · go_wp2
          go_ret
          obtain rfl : r = true := by rw [← HR.out, HN.out]; simp [t1, t2]
          exact ⟨rfl, below_alloc HX.out.below _⟩
        · have t2b : decide (x ≤ b) = false := by simpa using t2
          have HN2 : Hid (chB a b cs = chB a b (cs.drop (k + 1))) := Lib.hid (by rw [HN.out]; simp [t2])
          go_wp2
          go_roundw
          case rel => exact ⟨k + 1, by omega, by go_num, HN2.out, HX.out.alloc _⟩
          case measure => simp [intOf]; omega
      · have t1b : decide (a < x) = false := by simpa using t1
        have HN2 : Hid (chB a b cs = chB a b (cs.drop (k + 1))) := Lib.hid (by rw [HN.out]; simp [t1])
        go_wp2
        go_roundw
        case rel => exact ⟨k + 1, by omega, by go_num, HN2.out, HX.out.alloc _⟩
        case measure => simp [intOf]; omega
    · obtain rfl : k = cs.length := by omega
      go_wp2
      go_ret
      obtain rfl : r = false := by rw [← HR.out, HO.out, List.drop_length]; rfl
      exact ⟨rfl, HX.out.below⟩

end Go.Proofs.Ytgjnekfmnepjeaa
