/- Chapter 40: the reference's Same, Energy. -/
import Derived.Test.YtddbobphmakmmaaWd40
namespace Go.Proofs.Ytddbobphmakmmaa
open Go.RowKit

theorem eq_of_getR {la lb : List Rd} (hl : la.length = lb.length) (h : ∀ j, j < la.length → getR la j = getR lb j) : la = lb := by
  apply List.ext_getElem hl
  intro j h1 h2
  rw [← getR_eq h1, ← getR_eq h2]
  exact h j h1

/-- What Energy returns. -/
def enOk (l : List Rd) (a b : Int) : Bool := ordered l && decide (1 ≤ a ∧ a ≤ b ∧ b ≤ (l.length : Int))
def enN (l : List Rd) (a b : Int) : Int := if enOk l a b then energy l a.toNat (b - a).toNat else 0
def enV (l : List Rd) (a b : Int) : Value := .tuple #[.int .i64 (enN l a b), .int .i64 (if enOk l a b then 0 else 1)]

theorem getR_range {l : List Rd} (h : ordered l = true) {i : Nat} (hi : i < l.length) : 0 ≤ (getR l i).r ∧ (getR l i).r ≤ 1000000000 := by
  obtain ⟨x, hx, hok⟩ := okAt_parts (ordered_iff.1 h i hi)
  have ex : getR l i = x := by rw [getR_some hi] at hx; exact Option.some.inj hx
  rw [ex]
  exact (validR_iff.1 (okN_valid hok).1).2.2.2

set_option maxHeartbeats 4000000 in
theorem refEnergy_any (o : Option Addr) (cap : Nat) (l : List Rd) (a b : Int) (w : World) (hr : Rds w o l) (hl : l.length ≤ 9223372036854775807) : Calls Try.prog 21 #[.slice o l.length cap, .int .i64 a, .int .i64 b] w (Ret (enV l a b) w) := by
  have HRD := Lib.hid hr
  clear hr
  obtain ⟨V, hV⟩ : ∃ V, enV l a b = V := ⟨_, rfl⟩
  rw [hV]
  have HV := Lib.hid hV
  clear hV
  unfold enV enN enOk at HV
  have HOC := Lib.hid (refOrdered_any o cap l w HRD.out hl)
  obtain ⟨q, hq⟩ : ∃ q, ordered l = q := ⟨_, rfl⟩
  rw [hq] at HOC HV
  have HQ := Lib.hid hq
  clear hq
  go_enter Try.func21, Try.ntmps21
  go_wp2_with fail
  refine HOC.out.mono ?_
  rintro e w1 ⟨rfl, hb⟩
  have HB := Lib.hid hb
  clear hb HOC
  cases q with
  | false =>
    obtain rfl : .tuple #[.int .i64 0, .int .i64 1] = V := HV.out
    go_wp2
    go_ret2
    exact ⟨rfl, HB.out⟩
  | true =>
    have hl64 := ordered_le HQ.out
    by_cases hc : 1 ≤ a ∧ a ≤ b ∧ b ≤ (l.length : Int)
    · obtain ⟨k1, k2, k3⟩ := hc
      rw [show decide (1 ≤ a ∧ a ≤ b ∧ b ≤ (l.length : Int)) = true by simp [k1, k2, k3]] at HV
      have n1 : decide (a < 1) = false := by simp; omega
      have n2 : decide (b < a) = false := by simp; omega
      have n3 : decide ((l.length : Int) < b) = false := by simp; omega
      obtain ⟨A, hA⟩ : ∃ A : Nat, a = (A : Int) := ⟨a.toNat, by omega⟩
      obtain ⟨D, hD⟩ : ∃ D : Nat, b = (A : Int) + (D : Int) := ⟨(b - a).toNat, by omega⟩
      subst hA hD
      rw [show ((A : Int) + (D : Int) - (A : Int)).toNat = D by omega, Int.toNat_natCast] at HV
      obtain rfl : .tuple #[.int .i64 (energy l A D), .int .i64 0] = V := HV.out
      clear HV
      go_wp2
      clear n1 n2 n3
      go_loopw [8, 9] (fun u i wr => ∃ d : Nat, d ≤ D ∧ i = .int .i64 ((A + d : Nat) : Int) ∧ u = .int .i64 (energy l A d) ∧ Below w.heap.size w wr) (fun _ i _ => A + D - (intOf i).toNat)
      case atStart => exact ⟨0, Nat.zero_le _, rfl, rfl, HB.out⟩
      case round =>
        obtain ⟨d, hd, rfl, rfl, hbel⟩ := hrel
        have HBL := Lib.hid hbel
        clear hbel
        have hen := energy_nonneg HQ.out (a := A) (by omega) (d := d) (by omega)
        by_cases hlt : d < D
        · obtain ⟨i, hi⟩ : ∃ i, A + d = i := ⟨_, rfl⟩
          obtain ⟨b1, o1, h1, hx⟩ := (HRD.out.later HBL.out) i (by omega)
          obtain ⟨b2, o2, h2, hy⟩ := (HRD.out.later HBL.out) (i - 1) (by omega)
          rw [h1] at h2
          injection h2 with h2
          injection h2 with h2 h3
          subst h1 h2 h3
          have hgx := getR_range HQ.out (i := i) (by omega)
          have hgy := getR_range HQ.out (i := i - 1) (by omega)
          have HST := Lib.hid (show energy l A (d + 1) = energy l A d + gain (getR l (i - 1)) (getR l i) by rw [energy, hi])
          obtain ⟨x, hxe⟩ : ∃ x, getR l i = x := ⟨_, rfl⟩
          obtain ⟨y, hye⟩ : ∃ y, getR l (i - 1) = y := ⟨_, rfl⟩
          rw [hxe] at hx HST hgx
          rw [hye] at hy HST hgy
          obtain ⟨j, hj⟩ : ∃ j, i - 1 = j := ⟨_, rfl⟩
          rw [hj] at hy
          obtain ⟨c0, c1, c2, c3, c4⟩ := hx
          obtain ⟨d0, d1, d2, d3, d4⟩ := hy
          clear hxe hye
          obtain ⟨E, hE⟩ : ∃ E, energy l A d = E := ⟨_, rfl⟩
          rw [hE] at hen HST ⊢
          have HEE := Lib.hid hE
          have y1 : (0 : Int) ≤ (i : Int) := by omega
          have y2 : (i : Int) < (l.length : Int) := by omega
          have y3 : (0 : Int) ≤ (j : Int) := by omega
          have y4 : (j : Int) < (l.length : Int) := by omega
          have e1 : IntKind.i64.wrap ((i : Int) - 1) = (j : Int) := (IntWalk.i64_in _ (by omega)).trans (by omega)
          have e2 : IntKind.i64.wrap (E + x.r) = E + x.r := IntWalk.i64_in _ (by omega)
          have e3 : IntKind.i64.wrap (E + x.r - y.r) = E + x.r - y.r := IntWalk.i64_in _ (by omega)
          have hiD : (i : Int) < (A : Int) + (D : Int) := by omega
          rw [hi]
          have HI := Lib.hid (And.intro hi hj)
          have hib : i + 1 ≤ 1000 := by omega
          clear hi hj hE
          by_cases hsm : x.s = y.s
          · have hsb : (x.s == y.s) = true := by simpa using hsm
            have HSM := Lib.hid hsm
            clear hsm
            go_wp2_with fail
            go_quiet (fail)
            go_wp2_with fail
            go_quiet (fail)
            go_wp2
            go_roundw
            case rel =>
              refine ⟨d + 1, by omega, ?_, ?_, below_drewN HBL.out _⟩
              · rw [← HI.out.1]; go_num
              · rw [HST.out, gain, if_pos HSM.out]; go_num
            case measure => have := HI.out.1; simp [intOf]; omega
          · have hsb : (x.s == y.s) = false := by simpa using hsm
            have HSM := Lib.hid hsm
            clear hsm
            go_wp2_with fail
            go_quiet (fail)
            go_wp2
            go_roundw
            case rel =>
              refine ⟨d + 1, by omega, ?_, ?_, below_drewN HBL.out _⟩
              · rw [← HI.out.1]; go_num
              · rw [HST.out, gain, if_neg HSM.out]; go_num
            case measure => have := HI.out.1; simp [intOf]; omega
        · obtain rfl : d = D := by omega
          go_wp2
          go_ret2
          exact ⟨rfl, HBL.out⟩
    · rw [show decide (1 ≤ a ∧ a ≤ b ∧ b ≤ (l.length : Int)) = false by simpa using hc] at HV
      obtain rfl : .tuple #[.int .i64 0, .int .i64 1] = V := HV.out
      go_wp2
      all_goals first
        | (go_ret2; exact ⟨rfl, HB.out⟩)
        | (exfalso; omega)

end Go.Proofs.Ytddbobphmakmmaa
