/- Chapter 26: Valid. -/
import Derived.Test.YtgjnekfmnepjeaaWb26
namespace Go.Proofs.Ytgjnekfmnepjeaa
open Go.RowKit

/-- A calendar as a value. -/
abbrev calV (o : Int) (oc : Option Addr) (nc kc : Nat) (oh : Option Addr) (nh kh : Nat) : Value := .agg #[.int .i64 o, .slice oc nc kc, .slice oh nh kh]

set_option maxHeartbeats 1000000 in
theorem valid_any (o : Int) (oc oh : Option Addr) (kc kh : Nat) (cs : List (Int × Int)) (hs : List Int) (w : World) (hc : Twos w oc cs) (hh : Ints w oh hs) :
    Calls Try.prog 16 #[calV o oc cs.length kc oh hs.length kh] w (Ret (.bool (validCal o cs hs)) w) := by
  obtain ⟨r, hr⟩ : ∃ r, validCal o cs hs = r := ⟨_, rfl⟩
  rw [hr]
  have HR := Lib.hid hr
  have HC := Lib.hid hc
  have HH := Lib.hid hh
  clear hr hc hh
  by_cases l1 : cs.length ≤ 16
  case neg =>
    have l1' : (16 : Int) < cs.length := by omega
    go_enter Try.func16, Try.ntmps16
    go_wp2
    go_ret
    obtain rfl : r = false := HR.out.symm.trans (valid_c l1)
    exact ⟨rfl, below_alloc (Below.refl _ _) _⟩
  by_cases l2 : hs.length ≤ 32
  case neg =>
    have l2' : (32 : Int) < hs.length := by omega
    go_enter Try.func16, Try.ntmps16
    go_wp2
    go_ret
    obtain rfl : r = false := HR.out.symm.trans (valid_h l2)
    exact ⟨rfl, below_alloc (Below.refl _ _) _⟩
  obtain ⟨q, hq⟩ : ∃ q, inBand o (-1440) 1440 = q := ⟨_, rfl⟩
  have hins : ∀ w', Calls Try.prog 24 #[.int .i64 o, .int .i64 (-1440), .int .i64 1440] w' fun e w'' => e = .returned (.bool q) ∧ w'' = w' := fun w' => by
    rw [← hq]; exact inside_any o (-1440) 1440 w'
  have HI := Lib.hid hins
  have HQ := Lib.hid hq
  clear hins hq
  have l1i : (cs.length : Int) ≤ 16 := by omega
  have l2i : (hs.length : Int) ≤ 32 := by omega
  go_enter Try.func16, Try.ntmps16
  go_wp2_with fail
  refine (HI.out _).mono ?_
  rintro e w1 ⟨rfl, rfl⟩
  cases q with
  | false =>
    go_wp2
    go_ret
    obtain rfl : r = false := HR.out.symm.trans (valid_o HQ.out)
    exact ⟨rfl, below_alloc (Below.refl _ _) _⟩
  | true =>
    go_wp2
    go_loopw [26] (fun i wr => ∃ k : Nat, k ≤ cs.length ∧ i = .int .i64 k ∧ offs cs k ∧ Box3 w wr (.int .i64 o) (.slice oc cs.length kc) (.slice oh hs.length kh)) (fun i _ => cs.length - (intOf i).toNat)
    case atStart => exact ⟨0, Nat.zero_le _, rfl, offs_zero _, Box3.new ..⟩
    case round =>
      obtain ⟨k, hk, rfl, ho, hx⟩ := hrel
      have HO := Lib.hid ho
      have HX := Lib.hid hx
      clear ho hx
      by_cases hlt : k < cs.length
      · obtain ⟨g, off, hg, h1, h2⟩ := (HC.out.later HX.out.below) k hlt
        subst hg
        obtain ⟨x, hx⟩ : ∃ x, (cs.getD k (0, 0)).1 = x := ⟨_, rfl⟩
        obtain ⟨y, hy⟩ : ∃ y, (cs.getD k (0, 0)).2 = y := ⟨_, rfl⟩
        rw [hx] at h1
        rw [hy] at h2
        have HY := Lib.hid hy
        obtain ⟨p, hp⟩ : ∃ p, inBand y (-1440) 1440 = p := ⟨_, rfl⟩
        have HP := Lib.hid hp
        clear hx hy hp
        go_wp2_with fail
        refine (inside_any y (-1440) 1440 _).mono ?_
        rintro e w2 ⟨rfl, rfl⟩
        rw [HP.out]
        cases p with
        | false =>
          go_wp2
          go_ret
          obtain rfl : r = false := HR.out.symm.trans (valid_a (offs_bad HO.out hlt HY.out HP.out))
          exact ⟨rfl, below_alloc HX.out.below _⟩
        | true =>
          go_wp2
          go_roundw
          case rel => exact ⟨k + 1, by omega, by go_num, offs_step HO.out hlt HY.out HP.out, HX.out.alloc _⟩
          case measure => simp [intOf]; omega
      · obtain rfl : k = cs.length := by omega
        go_wp2_with fail
        refine (keys_any _).mono ?_
        rintro e w2 ⟨rfl, rfl⟩
        have c1 := HX.out.c1
        have c2 := HX.out.c2
        go_wp2_with fail
        refine (validC_any oc kc cs 52560000 _ (by omega) (HC.out.later HX.out.below)).mono ?_
        rintro e w3 ⟨rfl, hb3⟩
        have HX3 := Lib.hid (HX.out.later hb3)
        obtain ⟨p, hp⟩ : ∃ p, incr 52560000 (-1) (cs.map (·.1)) = p := ⟨_, rfl⟩
        rw [hp]
        have HP := Lib.hid hp
        clear hp hb3 c1 c2
        cases p with
        | false =>
          go_wp2
          go_ret
          obtain rfl : r = false := HR.out.symm.trans (valid_i HP.out)
          exact ⟨rfl, HX3.out.below⟩
        | true =>
          have c2 := HX3.out.c2
          go_wp2_with fail
          refine (validH_any oh kh hs 36500 _ (by omega) (HH.out.later HX3.out.below)).mono ?_
          rintro e w4 ⟨rfl, hb4⟩
          have HX4 := Lib.hid (HX3.out.later hb4)
          obtain ⟨p, hp⟩ : ∃ p, incr 36500 (-1) hs = p := ⟨_, rfl⟩
          rw [hp]
          have HP2 := Lib.hid hp
          clear hp hb4 c2
          have HE : Hid (r = p) := by
            refine Lib.hid ?_
            cases p with
            | false => exact HR.out.symm.trans (valid_j HP2.out)
            | true => exact HR.out.symm.trans (valid_mk l1 l2 HQ.out (offs_end HO.out) HP.out HP2.out)
          go_wp2
          go_ret
          obtain rfl := HE.out
          exact ⟨rfl, HX4.out.below⟩

end Go.Proofs.Ytgjnekfmnepjeaa
