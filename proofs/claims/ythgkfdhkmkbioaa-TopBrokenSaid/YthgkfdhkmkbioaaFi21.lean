/- Package flow: Most. -/
import Derived.Test.YthgkfdhkmkbioaaFh21
namespace Go.Proofs.Ythgkfdhkmkbioaa
open Go.RowKit
attribute [local go_sem] Oper.semAt_some

set_option maxRecDepth 100000 in
set_option maxHeartbeats 16000000 in
theorem validG_ok (w : World) (N : Nat) (E : List Ed) (eo : Option Addr) (ec : Nat) (he : EdsS [] w eo E) (hN : ∀ e ∈ E, e.f < N ∧ e.t < N) (hc : ∀ e ∈ E, 0 ≤ e.c ∧ e.c ≤ 1000000) (h1 : 1 ≤ N) (h64 : N ≤ 64) (h512 : E.length ≤ 512) :
    Calls Try.prog 51 #[.agg #[.int .i64 (N : Nat), .slice eo E.length ec]] w (Ret (.bool true) w) := by
  have HE := Lib.hid he
  have HIN := Lib.hid hN
  have HC := Lib.hid hc
  clear he hN hc
  have t1 : decide ((N : Int) < 1) = false := decide_eq_false (by omega)
  have t2 : decide ((64 : Int) < (N : Int)) = false := decide_eq_false (by omega)
  have t3 : decide ((512 : Int) < (E.length : Int)) = false := decide_eq_false (by omega)
  go_enter Try.func51, Try.ntmps51
  go_upto_region 1 with (fail)
  obtain ⟨W1, hW1⟩ : ∃ W, W = w.alloc (.cells #[.int .i64 (N : Nat), .slice eo E.length ec] 53) := ⟨_, rfl⟩
  have HBL1 := Lib.hid (show Below w.heap.size w W1 by rw [hW1]; exact below_alloc (Below.refl _ _) _)
  have HGB := Lib.hid (show Blk W1 w.heap.size 53 #[.int .i64 (N : Nat), .slice eo E.length ec] by rw [hW1]; exact Blk.new ..)
  rw [← hW1]
  clear hW1
  have g0 := HGB.out.cell 0
  have g1 := HGB.out.cell 1
  go_wp2_with fail
  clear g0 g1
  go_loopw [22] (fun i wr => ∃ k : Nat, k ≤ E.length ∧ i = .int .i64 k ∧ Below w.heap.size w wr ∧ Blk wr w.heap.size 53 #[.int .i64 (N : Nat), .slice eo E.length ec]) (fun i _ => E.length - (intOf i).toNat)
  case atStart => exact ⟨0, Nat.zero_le _, rfl, HBL1.out, HGB.out⟩
  case round =>
    obtain ⟨k, hk, rfl, hb, hg⟩ := hrel
    obtain ⟨wA, rfl⟩ : ∃ wA : World, wA = wr := ⟨_, rfl⟩
    clear HGB HBL1
    have HB := Lib.hid hb
    have HG := Lib.hid hg
    clear hb hg
    by_cases hlt : k < E.length
    · obtain ⟨be, oe, rfl, _, d0, d1, d2⟩ := (HE.out.later HB.out) k hlt
      have HM := Lib.hid (HIN.out _ (getE_mem hlt))
      have HCC := Lib.hid (HC.out _ (getE_mem hlt))
      obtain ⟨ef, hef⟩ : ∃ x, (getE E k).f = x := ⟨_, rfl⟩
      obtain ⟨et, het⟩ : ∃ x, (getE E k).t = x := ⟨_, rfl⟩
      obtain ⟨cc, hcc⟩ : ∃ x, (getE E k).c = x := ⟨_, rfl⟩
      rw [hef] at d0 HM
      rw [het] at d1 HM
      rw [hcc] at d2 HCC
      clear hef het hcc
      have s1 : decide ((ef : Int) < 0) = false := decide_eq_false (by omega)
      have s2 : decide (N ≤ ef) = false := decide_eq_false (by have := HM.out.1; omega)
      have s3 : decide ((et : Int) < 0) = false := decide_eq_false (by omega)
      have s4 : decide (N ≤ et) = false := decide_eq_false (by have := HM.out.2; omega)
      have s5 : decide (cc < 0) = false := decide_eq_false (by have := HCC.out.1; omega)
      have s6 : decide (1000000 < cc) = false := decide_eq_false (by have := HCC.out.2; omega)
      have y1 : (0 : Int) ≤ (k : Int) := by omega
      have y2 : (k : Int) < (E.length : Int) := by omega
      go_upto_region 6 with (fail)
      obtain ⟨W4, hW4⟩ : ∃ W, W = wA.alloc (.cells #[.int .i64 (ef : Nat), .int .i64 (et : Nat), .int .i64 cc] 55) := ⟨_, rfl⟩
      have hb4 : Below wA.heap.size wA W4 := by rw [hW4]; exact below_alloc (Below.refl _ _) _
      have HP4 := Lib.hid (show Blk W4 wA.heap.size 55 #[.int .i64 (ef : Nat), .int .i64 (et : Nat), .int .i64 cc] by rw [hW4]; exact Blk.new ..)
      have HB4 := Lib.hid (below_step HB.out hb4)
      have HG4 := Lib.hid (HG.out.later hb4)
      rw [← hW4]
      clear hW4 hb4 d0 d1 d2
      have g0 := HG4.out.cell 0
      have p0 := HP4.out.cell 0
      have p1 := HP4.out.cell 1
      have p2 := HP4.out.cell 2
      go_wp2
      go_round
      case rel => exact ⟨k + 1, hlt, by go_num, HB4.out, HG4.out⟩
      case measure => exact meas_lt hlt
    · obtain rfl : k = E.length := by omega
      go_wp2
      go_ret
      exact ⟨rfl, HB.out⟩
set_option maxRecDepth 100000 in
set_option maxHeartbeats 16000000 in
theorem ends_ok (w : World) (N s t : Nat) (E : List Ed) (eo : Option Addr) (ec : Nat) (he : EdsS [] w eo E) (hN : ∀ e ∈ E, e.f < N ∧ e.t < N) (hc : ∀ e ∈ E, 0 ≤ e.c ∧ e.c ≤ 1000000) (h64 : N ≤ 64) (h512 : E.length ≤ 512) (hs : s < N) (ht : t < N) (hst : s ≠ t) :
    Calls Try.prog 36 #[.agg #[.int .i64 (N : Nat), .slice eo E.length ec], .int .i64 (s : Nat), .int .i64 (t : Nat)] w (Ret (.bool true) w) := by
  have HE := Lib.hid he
  have HIN := Lib.hid hN
  have HC := Lib.hid hc
  clear he hN hc
  have t1 : decide ((0 : Int) ≤ (s : Int)) = true := decide_eq_true (by omega)
  have t2 : decide ((0 : Int) ≤ (t : Int)) = true := decide_eq_true (by omega)
  have t3 : decide ((s : Int) < (N : Int)) = true := decide_eq_true (by omega)
  have t4 : decide ((t : Int) < (N : Int)) = true := decide_eq_true (by omega)
  have t5 : ((s : Int) != (t : Int)) = true := by simp; omega
  go_enter Try.func36, Try.ntmps36
  go_upto_region 1 with (fail)
  obtain ⟨W1, hW1⟩ : ∃ W, W = w.alloc (.cells #[.int .i64 (N : Nat), .slice eo E.length ec] 53) := ⟨_, rfl⟩
  have HBL1 := Lib.hid (show Below w.heap.size w W1 by rw [hW1]; exact below_alloc (Below.refl _ _) _)
  have HGB := Lib.hid (show Blk W1 w.heap.size 53 #[.int .i64 (N : Nat), .slice eo E.length ec] by rw [hW1]; exact Blk.new ..)
  rw [← hW1]
  clear hW1
  have g0 := HGB.out.cell 0
  have g1 := HGB.out.cell 1
  have HV := Lib.hid (validG_ok W1 N E eo ec (HE.out.later HBL1.out) HIN.out HC.out (by omega) h64 h512)
  go_wp2_with fail
  refine HV.out.mono ?_
  rintro _ W2 ⟨rfl, hb⟩
  have HB2 := Lib.hid (below_step HBL1.out hb)
  replace g0 := cell_kept hb g0
  clear hb HV g1
  go_wp2
  go_ret
  exact ⟨rfl, HB2.out⟩
/-- No amount is greater. -/
theorem flow_le {E : List Ed} {fl : List Int} {s t : Nat} {a : Int} (h : FlowOk E fl s t a) (hc : ∀ e ∈ E, 0 ≤ e.c ∧ e.c ≤ 1000000) (h512 : E.length ≤ 512) : a ≤ 512000000 := by
  rw [← h.src]
  have h1 := netL_le (w := s) h.len h.cap
  have h2 := capL_le (S := fun v => v == s) (M := 1000000) (by decide) (fun e he => (hc e he).2)
  omega
theorem meas_amount {a r : Int} (h0 : 0 ≤ a) (h1 : 0 < r) (h2 : a ≤ 512000000) : 512000001 - (intOf (.int .i64 (a + r))).toNat < 512000001 - (intOf (.int .i64 a)).toNat := by
  show 512000001 - (a + r).toNat < 512000001 - a.toNat
  omega
/-- What the loop of Most keeps. -/
structure MostM (w wr : World) (N : Nat) (E : List Ed) (NB FB AB : Nat) (eo : Option Addr) (ec s t : Nat) (fl : List Int) (a : Int) : Prop where
  bel : Below w.heap.size w wr
  net : NetW wr N E NB FB AB eo ec
  fb : Blk wr FB 3 (intsC fl)
  fbl : w.heap.size ≤ FB
  ok : FlowOk E fl s t a
  pos : 0 ≤ a
theorem flow_zero {E : List Ed} {s t : Nat} (hc : ∀ e ∈ E, 0 ≤ e.c ∧ e.c ≤ 1000000) : FlowOk E (List.replicate E.length 0) s t 0 := by
  have hz : ∀ i, (List.replicate E.length (0 : Int)).getD i 0 = 0 := fun i => by
    rw [List.getD_eq_getElem?_getD, List.getElem?_replicate]
    split <;> rfl
  have hn : ∀ (L : List Ed) (w : Nat), netL (L.zip (List.replicate L.length 0)) w = 0 := fun L w => by
    induction L with
    | nil => rfl
    | cons e L ih =>
      show (if e.f = w then (0 : Int) else 0) - (if e.t = w then 0 else 0) + netL (L.zip (List.replicate L.length 0)) w = 0
      rw [ih]
      split <;> split <;> rfl
  exact ⟨by simp, fun i hi => by rw [hz]; exact ⟨Int.le_refl _, (hc _ (getE_mem hi)).1⟩, fun v _ _ => hn E v, hn E s⟩
/-- What Most hands over. -/
structure MostOut (w w' : World) (N : Nat) (E : List Ed) (s t : Nat) (e : Ending) : Prop where
  bel : Below w.heap.size w w'
  ex : ∃ (a : Int) (FB SB : Nat) (fl : List Int) (seen : List Bool), e = .returned (.tuple #[.int .i64 a, .slice (some ⟨FB, 0, none⟩) E.length E.length, .slice (some ⟨SB, 0, none⟩) N N, .int .i64 0]) ∧ w.heap.size ≤ FB ∧ w.heap.size ≤ SB ∧ Blk w' FB 3 (intsC fl) ∧ Blk w' SB 4 (boolsC seen) ∧ FlowOk E fl s t a ∧ seen.length = N ∧ seen.getD s false = true ∧ seen.getD t false = false ∧ a = capL (fun v => seen.getD v false) E ∧ 0 ≤ a ∧ a ≤ 512000000
set_option maxRecDepth 100000 in
set_option maxHeartbeats 16000000 in
theorem Most_any (w : World) (N s t : Nat) (E : List Ed) (eo : Option Addr) (ec : Nat) (he : EdsS [] w eo E) (hN : ∀ e ∈ E, e.f < N ∧ e.t < N) (hc : ∀ e ∈ E, 0 ≤ e.c ∧ e.c ≤ 1000000) (h64 : N ≤ 64) (h512 : E.length ≤ 512) (hs : s < N) (ht : t < N) (hst : s ≠ t) :
    Calls Try.prog 21 #[.agg #[.int .i64 (N : Nat), .slice eo E.length ec], .int .i64 (s : Nat), .int .i64 (t : Nat)] w (fun e w' => MostOut w w' N E s t e) := by
  have HE := Lib.hid he
  have HIN := Lib.hid hN
  have HC := Lib.hid hc
  clear he hN hc
  go_enter Try.func21, Try.ntmps21
  go_upto_region 1 with (fail)
  obtain ⟨W1, hW1⟩ : ∃ W, W = w.alloc (.cells #[.int .i64 (N : Nat), .slice eo E.length ec] 53) := ⟨_, rfl⟩
  have HBL1 := Lib.hid (show Below w.heap.size w W1 by rw [hW1]; exact below_alloc (Below.refl _ _) _)
  have HGB := Lib.hid (show Blk W1 w.heap.size 53 #[.int .i64 (N : Nat), .slice eo E.length ec] by rw [hW1]; exact Blk.new ..)
  rw [← hW1]
  clear hW1
  have g0 := HGB.out.cell 0
  have g1 := HGB.out.cell 1
  have HV := Lib.hid (ends_ok W1 N s t E eo ec (HE.out.later HBL1.out) HIN.out HC.out h64 h512 hs ht hst)
  go_wp2_with fail
  refine HV.out.mono ?_
  rintro _ W2 ⟨rfl, hb⟩
  have HB2 := Lib.hid (below_step HBL1.out hb)
  replace g0 := cell_kept hb g0
  replace g1 := cell_kept hb g1
  clear hb HV HGB
  have HNN := Lib.hid (newNet_any W2 N E eo ec (HE.out.later HB2.out) HIN.out HC.out h64 h512)
  go_wp2_with fail
  refine HNN.out.mono ?_
  rintro _ W3 ⟨NB, FB, AB, rfl, hb3, hfl, hnet, hfb⟩
  have HM3 : Hid (MostM w W3 N E NB FB AB eo ec s t (List.replicate E.length 0) 0) := Lib.hid ⟨below_step HB2.out hb3, hnet, hfb, Nat.le_trans HB2.out.size hfl, flow_zero HC.out, Int.le_refl _⟩
  clear hb3 hfl hnet hfb HNN g0 g1
  go_wp2_with fail
  go_loopw [11] (fun x wr => ∃ (a : Int) (fl : List Int), x = .int .i64 a ∧ MostM w wr N E NB FB AB eo ec s t fl a) (fun x _ => 512000001 - (intOf x).toNat)
  case atStart => exact ⟨0, _, rfl, HM3.out⟩
  case round =>
    obtain ⟨a, fl, rfl, hm⟩ := hrel
    obtain ⟨wA, rfl⟩ : ∃ wA : World, wA = wr := ⟨_, rfl⟩
    clear HM3
    have HM := Lib.hid hm
    have HLE := Lib.hid (flow_le hm.ok HC.out h512)
    have ha0 := hm.pos
    clear hm
    have HS := Lib.hid (search_any wA N E NB FB AB eo ec fl s t hs ht hst HM.out.net HM.out.fb HM.out.ok.len HM.out.ok.cap)
    go_wp2_with fail
    refine HS.out.mono ?_
    rintro _ W5 ⟨hb5, SB, BB, seen, by', rk, rfl, hsl, hbl, hsb, hbb, hreach, hsh⟩
    have HM5 : Hid (MostM w W5 N E NB FB AB eo ec s t fl a) := Lib.hid ⟨below_step HM.out.bel hb5, HM.out.net.later hb5, HM.out.fb.later hb5, HM.out.fbl, HM.out.ok, HM.out.pos⟩
    have HSB := Lib.hid hsb
    have HBB := Lib.hid hbb
    have HRE := Lib.hid hreach
    have HSH := Lib.hid hsh
    have HSL := Lib.hid (Nat.le_trans HM.out.bel.size hsl)
    clear hb5 hsb hbb hreach hsh hsl hbl HM HS
    have y1 : (0 : Int) ≤ (t : Int) := by omega
    have y2 : (t : Int) < (N : Int) := by omega
    have cS : W5.cell? ⟨SB, t, none⟩ = some (.bool (seen.getD t false)) := (HSB.out.cell t).trans (boolsC_get (by rw [HRE.out.ls]; exact ht))
    cases hst' : seen.getD t false with
    | false =>
      rw [hst'] at cS
      have HST := Lib.hid hst'
      clear hst'
      have n2 := HM5.out.net.nb.cell 2
      go_wp2_with fail
      go_quiet (fail)
      go_wp2
      have hbd := below_drewN (Below.refl W5.heap.size W5) nq
      exact bodyPost_ret (v := .tuple #[.int .i64 a, .slice (some ⟨FB, 0, none⟩) E.length E.length, .slice (some ⟨SB, 0, none⟩) N N, .int .i64 0]) (by simp [results, Try.results21, go_sem]) rfl ⟨below_step HM5.out.bel hbd, a, FB, SB, fl, seen, rfl, HM5.out.fbl, HSL.out, HM5.out.fb.later hbd, HSB.out.later hbd, HM5.out.ok, HRE.out.ls, HRE.out.src, HST.out, flow_cut HM5.out.ok (HSH.out HST.out) HIN.out hs HRE.out.src HST.out, ha0, HLE.out⟩
    | true =>
      rw [hst'] at cS
      have HST := Lib.hid hst'
      clear hst'
      have HAU := Lib.hid (augment_any W5 N E NB FB AB BB eo ec fl s t a seen by' rk ht hst HM5.out.net HM5.out.fb HBB.out HM5.out.ok HRE.out HST.out)
      go_wp2_with fail
      refine HAU.out.mono ?_
      rintro _ W6 ⟨r, fl', rfl, hr0, hr1, hok, hagr, hfb6⟩
      have HM6 : Hid (MostM w W6 N E NB FB AB eo ec s t fl' (a + r)) := Lib.hid ⟨hagr.below HM5.out.bel (fun b hb => by rw [List.mem_singleton.1 hb]; exact HM5.out.fbl), HM5.out.net.agr hagr (fun b hb => List.mem_singleton.1 hb), hfb6, HM5.out.fbl, hok, by omega⟩
      clear hok hagr hfb6 HAU HM5 HSB HBB HRE HSH cS
      have e1 : IntKind.i64.wrap (a + r) = a + r := IntWalk.i64_in _ (by have := HLE.out; omega)
      have hle := HLE.out
      go_wp2
      go_round
      case rel => exact ⟨a + r, fl', rfl, HM6.out⟩
      case measure => exact meas_amount ha0 hr0 hle
end Go.Proofs.Ythgkfdhkmkbioaa