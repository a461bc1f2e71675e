/- TopHall: jobs can be met just if no set of them needs more than all slots can give to it. -/
import Derived.Test.YthgkfdhkmkbioaaRj21
import Derived.Laws.BitsAllLaws
namespace Go.Proofs.Ythgkfdhkmkbioaa
open Go.RowKit Go.Shelf
attribute [local go_sem] Oper.semAt_some

/-! ### Sets of jobs, as bits -/
def bitC (s i : Nat) : Bool := s.testBit i
theorem bits_of (C : Nat → Bool) : ∀ n, ∃ s, s < 2 ^ n ∧ ∀ i, i < n → s.testBit i = C i
  | 0 => ⟨0, by decide, fun i hi => absurd hi (Nat.not_lt_zero _)⟩
  | n + 1 => by
    obtain ⟨s, hs, h⟩ := bits_of C n
    have hp : 2 ^ (n + 1) = 2 ^ n + 2 ^ n := by rw [Nat.pow_succ]; omega
    cases hc : C n with
    | false =>
      refine ⟨s, by omega, fun i hi => ?_⟩
      by_cases e : i = n
      · subst e; rw [hc]; exact Nat.testBit_lt_two_pow hs
      · exact h i (by omega)
    | true =>
      refine ⟨2 ^ n + s, by omega, fun i hi => ?_⟩
      by_cases e : i = n
      · subst e; rw [hc, Nat.testBit_two_pow_add_eq, Nat.testBit_lt_two_pow hs]; rfl
      · rw [Nat.testBit_two_pow_add_gt (by omega)]; exact h i (by omega)
def OkSet (J : List Jb) (S : List Int) (s : Nat) : Prop := needC J (bitC s) ≤ giveC J S (bitC s)
theorem needC_congr {J : List Jb} {C C' : Nat → Bool} (h : ∀ i, i < J.length → C i = C' i) : needC J C = needC J C' := sumN_congr fun i hi => by rw [h i hi]
theorem giveC_congr {J : List Jb} {S : List Int} {C C' : Nat → Bool} (h : ∀ i, i < J.length → C i = C' i) : giveC J S C = giveC J S C' := by
  unfold giveC
  exact sumN_congr fun t _ => by rw [sumN_congr (n := J.length) (fun i hi => by rw [h i hi])]
/-- All sets are met: no cut is right. -/
theorem hall_yes {J : List Jb} {S : List Int} (hv : ValidP J S) (h : ∀ s, 1 ≤ s → s < 2 ^ J.length → OkSet J S s) {C T : Nat → Bool} (hc : CutOk J S C T) : False := by
  obtain ⟨s, hs, hb⟩ := bits_of C J.length
  have h1 := cut_hall hc
  rw [needC_congr (C' := bitC s) (fun i hi => (hb i hi).symm), giveC_congr (C' := bitC s) (fun i hi => (hb i hi).symm)] at h1
  by_cases h0 : s = 0
  · subst h0
    have e1 : needC J (bitC 0) = 0 := sumN_zero fun i hi => by rw [if_neg (by unfold bitC; simp)]
    have e2 : 0 ≤ giveC J S (bitC 0) := sumN_nonneg fun t ht => by
      have e3 : sumN J.length (fun i => if bitC 0 i = true then rateAt (getJ J i) t else 0) = 0 := sumN_zero fun i hi => by rw [if_neg (by unfold bitC; simp)]
      have e4 : 0 ≤ S.getD t 0 := (hv.s _ (by rw [List.getD_eq_getElem?_getD, List.getElem?_eq_getElem ht]; exact List.getElem_mem ht)).1
      show 0 ≤ min (S.getD t 0) _
      rw [e3]
      omega
    omega
  · have := h s (by omega) hs
    unfold OkSet at this
    omega
theorem hall_no {J : List Jb} {S : List Int} {s : Nat} (h : ¬ OkSet J S s) {P : Nat → Nat → Int} (hp : PlanOk J S P) : False := h (plan_hall hp (bitC s))
structure HallF (J : List Jb) (S : List Int) (s : Nat) : Prop where
  ne : ∀ k, k ≤ J.length → 0 ≤ sumN k (fun i => if bitC s i = true then (getJ J i).e else 0) ∧ sumN k (fun i => if bitC s i = true then (getJ J i).e else 0) ≤ 1000 * k
  ra : ∀ t k, k ≤ J.length → 0 ≤ sumN k (fun i => if bitC s i = true then rateAt (getJ J i) t else 0) ∧ sumN k (fun i => if bitC s i = true then rateAt (getJ J i) t else 0) ≤ 1000 * k
  gi : ∀ t, t ≤ S.length → 0 ≤ sumN t (fun t => min (S.getD t 0) (sumN J.length (fun i => if bitC s i = true then rateAt (getJ J i) t else 0))) ∧ sumN t (fun t => min (S.getD t 0) (sumN J.length (fun i => if bitC s i = true then rateAt (getJ J i) t else 0))) ≤ 1000 * t
  su : ∀ t, t < S.length → 0 ≤ S.getD t 0 ∧ S.getD t 0 ≤ 1000
theorem hallF {J : List Jb} {S : List Int} (hv : ValidP J S) (s : Nat) : HallF J S s := by
  have hsu : ∀ t, t < S.length → 0 ≤ S.getD t 0 ∧ S.getD t 0 ≤ 1000 := fun t ht => hv.s _ (by rw [List.getD_eq_getElem?_getD, List.getElem?_eq_getElem ht]; exact List.getElem_mem ht)
  have hra : ∀ t i, i < J.length → 0 ≤ (if bitC s i = true then rateAt (getJ J i) t else 0) ∧ (if bitC s i = true then rateAt (getJ J i) t else 0) ≤ 1000 := fun t i hi => by
    have hj := hv.j _ (getJ_mem hi)
    have h0 := rateAt_nonneg hj t
    have h1 : rateAt (getJ J i) t ≤ 1000 := by
      unfold rateAt
      have := hj.r1
      split <;> omega
    split
    · exact ⟨h0, h1⟩
    · omega
  refine ⟨fun k hk => sumN_bd fun i hi => ?_, fun t k hk => sumN_bd fun i hi => hra t i (by omega), fun t ht => sumN_bd fun i hi => ?_, hsu⟩
  · have hj := hv.j _ (getJ_mem (i := i) (by omega))
    have h0 := hj.e0
    have h1 := hj.e1
    split <;> omega
  · have h1 := hsu i (by omega)
    have h2 := sumN_nonneg (f := fun q => if bitC s q = true then rateAt (getJ J q) i else 0) (n := J.length) (fun q hq => (hra i q hq).1)
    try dsimp only
    omega
structure ShlF (n M : Nat) : Prop where
  eq : 2 ^ n = M
  lo : 1 ≤ M
  hi : M ≤ 4096
  w1 : wrap64 ((2 : Int) ^ n) = (M : Int)
  w2 : IntKind.i64.wrap ((2 : Int) ^ n) = (M : Int)
theorem shlF {n : Nat} (hn : n ≤ 12) : ∃ M, ShlF n M := by
  have h1 : 2 ^ n ≤ 4096 := Nat.le_trans (Nat.pow_le_pow_right (by decide) hn) (by decide)
  have h2 : 1 ≤ 2 ^ n := Nat.one_le_two_pow
  have e0 : ((2 : Int) ^ n) = ((2 ^ n : Nat) : Int) := by push_cast; rfl
  refine ⟨2 ^ n, rfl, h2, h1, ?_, ?_⟩
  · rw [e0]
    generalize 2 ^ n = S at h1 h2
    unfold wrap64
    omega
  · rw [e0]
    generalize 2 ^ n = S at h1 h2
    exact IntWalk.i64_in (S : Int) (by omega)
theorem i64_and_nat (a b : Nat) (ha : a < 4611686018427387904) (hb : b < 4611686018427387904) : bits .and .i64 (a : Int) (b : Int) = ((a &&& b : Nat) : Int) := by
  have hx : a &&& b < 2 ^ 62 := Nat.and_lt_two_pow _ (by omega)
  have e : ∀ c : Nat, c < 4611686018427387904 → (BitVec.ofInt 64 (c : Int)).toNat = c := fun c hc => by
    rw [BitVec.ofInt_natCast, BitVec.toNat_ofNat]; exact Nat.mod_eq_of_lt (by omega)
  show IntKind.i64.wrap ((BitVec.ofInt 64 (a : Int) &&& BitVec.ofInt 64 (b : Int)).toNat : Int) = _
  rw [BitVec.toNat_and, e a ha, e b hb]
  exact IntWalk.i64_in _ (by omega)
/-- The bit, as the program asks for it. -/
theorem bit_test {s k : Nat} (hs : s ≤ 4096) : (bits .and .i64 ((s : Int) / 2 ^ k) 1 == 1) = bitC s k := by
  have h1 : (s : Int) / 2 ^ k = ((s / 2 ^ k : Nat) : Int) := by push_cast; rfl
  have h2 : s / 2 ^ k ≤ s := Nat.div_le_self _ _
  rw [h1, show (1 : Int) = ((1 : Nat) : Int) from rfl, i64_and_nat _ 1 (by omega) (by omega), Nat.and_one_is_mod]
  unfold bitC
  rw [Nat.testBit_eq_decide_div_mod_eq]
  rw [Bool.eq_iff_iff, beq_iff_eq, decide_eq_true_iff]
  omega
/-- How far the loop over the sets has come. -/
def SetI (J : List Jb) (S : List Int) (c : Bool) (s : Nat) : Prop := (c = true ∧ ∀ q, 1 ≤ q → q < s → OkSet J S q) ∨ (c = false ∧ ∃ q, ¬ OkSet J S q)
theorem SetI.start (J : List Jb) (S : List Int) : SetI J S true 1 := .inl ⟨rfl, fun q h1 h2 => by omega⟩
theorem SetI.next {J : List Jb} {S : List Int} {s : Nat} (h : SetI J S true s) : SetI J S (decide (needC J (bitC s) ≤ giveC J S (bitC s))) (s + 1) := by
  by_cases hc : needC J (bitC s) ≤ giveC J S (bitC s)
  · rw [decide_eq_true hc]
    rcases h with ⟨_, h⟩ | ⟨h, _⟩
    · refine .inl ⟨rfl, fun q h1 h2 => ?_⟩
      by_cases e : q = s
      · subst e; exact hc
      · exact h q h1 (by omega)
    · cases h
  · rw [decide_eq_false hc]
    exact .inr ⟨rfl, s, hc⟩
set_option maxRecDepth 100000 in
set_option maxHeartbeats 16000000 in
theorem hall_any (w : World) (J : List Jb) (S : List Int) (oj os : Option Addr) (cj cs : Nat) (hj : JobsM w oj J) (hs : Ints w os S) (hbj : J.length ≤ 9223372036854775807) (hbs : S.length ≤ 9223372036854775807) :
    Calls Try.prog 3 #[.slice oj J.length cj, .slice os S.length cs] w (Ret (.bool true) w) := by
  have HJ := Lib.hid hj
  have HS := Lib.hid hs
  clear hj hs
  go_enter Try.func3, Try.ntmps3
  go_wp2_with fail
  refine (r7jobs_any w).mono ?_
  rintro _ W1 ⟨rfl, hb1⟩
  have HB1 := Lib.hid hb1
  clear hb1
  by_cases h10 : 10 < J.length
  · have d1 : decide ((10 : Int) < (J.length : Int)) = true := decide_eq_true (by omega)
    have d1b : decide (10 < J.length) = true := decide_eq_true h10
    go_wp2
    go_ret
    exact ⟨rfl, HB1.out⟩
  have d1 : decide ((10 : Int) < (J.length : Int)) = false := decide_eq_false (by omega)
  have d1b : decide (10 < J.length) = false := decide_eq_false h10
  by_cases h30 : 30 < S.length
  · have d2 : decide ((30 : Int) < (S.length : Int)) = true := decide_eq_true (by omega)
    have d2b : decide (30 < S.length) = true := decide_eq_true h30
    go_wp2
    go_ret
    exact ⟨rfl, HB1.out⟩
  have d2 : decide ((30 : Int) < (S.length : Int)) = false := decide_eq_false (by omega)
  have d2b : decide (30 < S.length) = false := decide_eq_false h30
  have HVA := Lib.hid (refValid_any J S oj os cj cs W1 (HJ.out.later HB1.out) (HS.out.later HB1.out))
  cases hvb : validP J S with
  | false =>
    rw [hvb] at HVA
    clear hvb
    go_wp2_with fail
    refine HVA.out.mono ?_
    rintro _ W2 ⟨rfl, hb2⟩
    have HB2 := Lib.hid (below_step HB1.out hb2)
    clear hb2 HVA
    go_wp2
    go_ret
    exact ⟨rfl, HB2.out⟩
  | true =>
    rw [hvb] at HVA
    have HV := Lib.hid (validP_iff.1 hvb)
    have hn12 := HV.out.j12
    have hm24 := HV.out.s24
    clear hvb
    go_wp2_with fail
    refine HVA.out.mono ?_
    rintro _ W2 ⟨rfl, hb2⟩
    have HB2 := Lib.hid (below_step HB1.out hb2)
    clear hb2 HVA HB1 d1 d1b d2 d2b
    have HYES := Lib.hid (fun (C T : Nat → Bool) (hc : CutOk J S C T) (h : ∀ s, 1 ≤ s → s < 2 ^ J.length → OkSet J S s) => hall_yes HV.out h hc)
    obtain ⟨M, hM, hpos, h1024, sh1, sh2⟩ := shlF (n := J.length) (by omega)
    rw [hM] at HYES
    clear hM
    go_wp2_with fail
    go_loopw [6, 7] (fun c iv wr => ∃ (b : Bool) (s : Nat), (1 ≤ s ∧ s ≤ M) ∧ c = .bool b ∧ iv = .int .i64 s ∧ SetI J S b s ∧ Below w.heap.size w wr) (fun _ iv _ => M + 1 - (intOf iv).toNat)
    case atStart => exact ⟨true, 1, ⟨Nat.le_refl _, hpos⟩, rfl, rfl, SetI.start J S, HB2.out⟩
    case round =>
      obtain ⟨b, s, hsm, rfl, rfl, hsi, hb⟩ := hrel
      obtain ⟨wA, rfl⟩ : ∃ wA : World, wA = wr := ⟨_, rfl⟩
      clear HB2
      have HSI := Lib.hid hsi
      have HB := Lib.hid hb
      clear hsi hb
      by_cases hlt : s < M
      · cases b with
        | true =>
          have HF := Lib.hid (hallF HV.out s)
          have HNX := Lib.hid HSI.out.next
          go_wp2_with fail
          go_loopw [8, 48] (fun nd iv wr => ∃ k : Nat, k ≤ J.length ∧ iv = .int .i64 k ∧ nd = .int .i64 (sumN k (fun i => if bitC s i = true then (getJ J i).e else 0)) ∧ Below w.heap.size w wr) (fun _ iv _ => J.length - (intOf iv).toNat)
          case atStart => exact ⟨0, Nat.zero_le _, rfl, rfl, HB.out⟩
          case round =>
            obtain ⟨k, hk, rfl, rfl, hb⟩ := hrel
            obtain ⟨wB, rfl⟩ : ∃ wB : World, wB = wr := ⟨_, rfl⟩
            clear HB
            have HB := Lib.hid hb
            clear hb
            by_cases hkt : k < J.length
            · obtain ⟨b, off, rfl, c0, c1, c2, c3, c4⟩ := (HJ.out.later HB.out) k hkt
              have hne := HF.out.ne k hk
              have hej := HV.out.j _ (getJ_mem hkt)
              have HSU := Lib.hid (show sumN (k + 1) (fun i => if bitC s i = true then (getJ J i).e else 0) = sumN k (fun i => if bitC s i = true then (getJ J i).e else 0) + (if bitC s k = true then (getJ J k).e else 0) from rfl)
              obtain ⟨ND, hND⟩ : ∃ x, sumN k (fun i => if bitC s i = true then (getJ J i).e else 0) = x := ⟨_, rfl⟩
              rw [hND] at hne HSU ⊢
              obtain ⟨j, hj⟩ : ∃ j, getJ J k = j := ⟨_, rfl⟩
              rw [hj] at c0 c1 c2 c3 c4 hej HSU
              have hje0 := hej.e0
              have hje1 := hej.e1
              clear hj hND hej
              have y1 : (0 : Int) ≤ (k : Int) := by omega
              have y2 : (k : Int) < (J.length : Int) := by omega
              have hbt := bit_test (s := s) (k := k) (by omega)
              cases hbc : bitC s k with
              | true =>
                rw [hbc] at hbt HSU
                rw [if_pos rfl] at HSU
                clear hbc
                go_wp2
                exact ⟨⟨k + 1, hkt, by go_num, by rw [HSU.out], below_alloc HB.out _⟩, meas_lt hkt⟩
              | false =>
                rw [hbc] at hbt HSU
                rw [if_neg (by decide), Int.add_zero] at HSU
                clear hbc
                go_wp2
                exact ⟨⟨k + 1, hkt, by go_num, by rw [HSU.out], below_alloc HB.out _⟩, meas_lt hkt⟩
            · obtain rfl : k = J.length := by omega
              clear hkt hk
              obtain ⟨ND, hND⟩ : ∃ x, sumN J.length (fun i => if bitC s i = true then (getJ J i).e else 0) = x := ⟨_, rfl⟩
              have HND : Hid (needC J (bitC s) = ND) := Lib.hid hND
              have hnd := HF.out.ne J.length (Nat.le_refl _)
              rw [hND] at hnd ⊢
              clear hND
              go_wp2_with fail
              go_loopw [9, 65] (fun gv iv wr => ∃ t : Nat, t ≤ S.length ∧ iv = .int .i64 t ∧ gv = .int .i64 (sumN t (fun t => min (S.getD t 0) (sumN J.length (fun i => if bitC s i = true then rateAt (getJ J i) t else 0)))) ∧ Below w.heap.size w wr) (fun _ iv _ => S.length - (intOf iv).toNat)
              case atStart => exact ⟨0, Nat.zero_le _, rfl, rfl, HB.out⟩
              case round =>
                obtain ⟨t, ht, rfl, rfl, hb⟩ := hrel
                obtain ⟨wC, rfl⟩ : ∃ wC : World, wC = wr := ⟨_, rfl⟩
                clear HB
                have HB := Lib.hid hb
                clear hb
                have hgi := HF.out.gi t ht
                by_cases htt : t < S.length
                · obtain ⟨b, off, rfl, s0⟩ := (HS.out.later HB.out) t htt
                  have hsu := HF.out.su t htt
                  have HSG := Lib.hid (show sumN (t + 1) (fun t => min (S.getD t 0) (sumN J.length (fun i => if bitC s i = true then rateAt (getJ J i) t else 0))) = sumN t (fun t => min (S.getD t 0) (sumN J.length (fun i => if bitC s i = true then rateAt (getJ J i) t else 0))) + min (S.getD t 0) (sumN J.length (fun i => if bitC s i = true then rateAt (getJ J i) t else 0)) from rfl)
                  obtain ⟨G, hG⟩ : ∃ x, sumN t (fun t => min (S.getD t 0) (sumN J.length (fun i => if bitC s i = true then rateAt (getJ J i) t else 0))) = x := ⟨_, rfl⟩
                  obtain ⟨sv, hsv⟩ : ∃ x, S.getD t 0 = x := ⟨_, rfl⟩
                  rw [hG, hsv] at HSG
                  rw [hG] at hgi
                  rw [hG]
                  rw [hsv] at s0 hsu
                  clear hG hsv
                  have y1 : (0 : Int) ≤ (t : Int) := by omega
                  have y2 : (t : Int) < (S.length : Int) := by omega
                  go_wp2_with fail
                  go_loopw [14, 72] (fun rv iv wr => ∃ k : Nat, k ≤ J.length ∧ iv = .int .i64 k ∧ rv = .int .i64 (sumN k (fun i => if bitC s i = true then rateAt (getJ J i) t else 0)) ∧ Below w.heap.size w wr) (fun _ iv _ => J.length - (intOf iv).toNat)
                  case atStart => exact ⟨0, Nat.zero_le _, rfl, rfl, HB.out⟩
                  case round =>
                    obtain ⟨k, hk, rfl, rfl, hb⟩ := hrel
                    obtain ⟨wD, rfl⟩ : ∃ wD : World, wD = wr := ⟨_, rfl⟩
                    clear HB s0
                    have HB := Lib.hid hb
                    clear hb
                    have hra := HF.out.ra t k hk
                    by_cases hkt : k < J.length
                    · obtain ⟨b, off, rfl, c0, c1, c2, c3, c4⟩ := (HJ.out.later HB.out) k hkt
                      have hej := HV.out.j _ (getJ_mem hkt)
                      have HSU := Lib.hid (show sumN (k + 1) (fun i => if bitC s i = true then rateAt (getJ J i) t else 0) = sumN k (fun i => if bitC s i = true then rateAt (getJ J i) t else 0) + (if bitC s k = true then rateAt (getJ J k) t else 0) from rfl)
                      obtain ⟨RT, hRT⟩ : ∃ x, sumN k (fun i => if bitC s i = true then rateAt (getJ J i) t else 0) = x := ⟨_, rfl⟩
                      rw [hRT] at hra HSU ⊢
                      obtain ⟨j, hj⟩ : ∃ j, getJ J k = j := ⟨_, rfl⟩
                      rw [hj] at c0 c1 c2 c3 c4 hej HSU
                      have hjr0 := hej.r0
                      have hjr1 := hej.r1
                      clear hj hRT hej
                      have z1 : (0 : Int) ≤ (k : Int) := by omega
                      have z2 : (k : Int) < (J.length : Int) := by omega
                      have hbt := bit_test (s := s) (k := k) (by omega)
                      cases hbc : bitC s k with
                      | false =>
                        rw [hbc] at hbt HSU
                        rw [if_neg (by decide), Int.add_zero] at HSU
                        clear hbc
                        go_wp2
                        exact ⟨⟨k + 1, hkt, by go_num, by rw [HSU.out], below_alloc HB.out _⟩, meas_lt hkt⟩
                      | true =>
                        rw [hbc] at hbt HSU
                        rw [if_pos rfl] at HSU
                        clear hbc
                        by_cases hf1 : j.f ≤ (t : Int)
                        · have df : decide (j.f ≤ (t : Int)) = true := decide_eq_true hf1
                          by_cases hf2 : (t : Int) < j.t
                          · have dt : decide ((t : Int) < j.t) = true := decide_eq_true hf2
                            rw [show rateAt j t = j.r by unfold rateAt; rw [if_pos ⟨hf1, hf2⟩]] at HSU
                            clear hf1 hf2
                            go_wp2
                            exact ⟨⟨k + 1, hkt, by go_num, by rw [HSU.out], below_alloc HB.out _⟩, meas_lt hkt⟩
                          · have dt : decide ((t : Int) < j.t) = false := decide_eq_false hf2
                            rw [show rateAt j t = 0 by unfold rateAt; rw [if_neg (fun h => hf2 h.2)], Int.add_zero] at HSU
                            clear hf1 hf2
                            go_wp2
                            exact ⟨⟨k + 1, hkt, by go_num, by rw [HSU.out], below_alloc HB.out _⟩, meas_lt hkt⟩
                        · have df : decide (j.f ≤ (t : Int)) = false := decide_eq_false hf1
                          rw [show rateAt j t = 0 by unfold rateAt; rw [if_neg (fun h => hf1 h.1)], Int.add_zero] at HSU
                          clear hf1
                          go_wp2
                          exact ⟨⟨k + 1, hkt, by go_num, by rw [HSU.out], below_alloc HB.out _⟩, meas_lt hkt⟩
                    · obtain rfl : k = J.length := by omega
                      clear hkt hk
                      obtain ⟨RT, hRT⟩ : ∃ x, sumN J.length (fun i => if bitC s i = true then rateAt (getJ J i) t else 0) = x := ⟨_, rfl⟩
                      rw [hRT] at hra HSG ⊢
                      clear hRT
                      by_cases hmn : sv ≤ RT
                      · rw [show min sv RT = sv from Int.min_eq_left hmn] at HSG
                        have dm : decide (sv ≤ RT) = true := decide_eq_true hmn
                        go_wp2
                        exact ⟨⟨t + 1, htt, by go_num, by rw [HSG.out], HB.out⟩, meas_lt htt⟩
                      · rw [show min sv RT = RT from Int.min_eq_right (by omega)] at HSG
                        go_wp2
                        exact ⟨⟨t + 1, htt, by go_num, by rw [HSG.out], HB.out⟩, meas_lt htt⟩
                · obtain rfl : t = S.length := by omega
                  clear htt ht
                  obtain ⟨G, hG⟩ : ∃ x, sumN S.length (fun t => min (S.getD t 0) (sumN J.length (fun i => if bitC s i = true then rateAt (getJ J i) t else 0))) = x := ⟨_, rfl⟩
                  have hG2 : giveC J S (bitC s) = G := hG
                  rw [HND.out, hG2] at HNX
                  rw [hG]
                  clear hG hG2
                  go_wp2
                  refine ⟨⟨decide (ND ≤ G), s + 1, ⟨by omega, by omega⟩, rfl, by go_num, HNX.out, HB.out⟩, ?_⟩
                  simp [intOf]
                  omega
        | false =>
          have HNO : Hid (∃ q, ¬ OkSet J S q) := Lib.hid (by
            rcases HSI.out with ⟨h, _⟩ | ⟨_, h⟩
            · cases h
            · exact h)
          have dl : decide ((s : Int) < (M : Int)) = true := decide_eq_true (by omega)
          have dl2 : decide (s < M) = true := decide_eq_true hlt
          have HSC := Lib.hid (sched_any wA J S oj os cj cs (HJ.out.later HB.out) (HS.out.later HB.out) HV.out)
          go_wp2_with fail
          refine HSC.out.mono ?_
          rintro _ W3 hso
          rcases hso.ex with ⟨AL, OB, L, P, _, _, _, _, _, _, hP⟩ | ⟨v1, v2, C, T, rfl, hr1, hr2, hcut⟩
          · obtain ⟨q, hq⟩ := HNO.out
            exact absurd (hall_no hq hP) id
          obtain ⟨o1, c1, rfl, _⟩ := ownsRow_shapeQ hr1
          obtain ⟨o2, c2, rfl, _⟩ := ownsRow_shapeQ hr2
          have HI1 := Lib.hid (row_ints hr1)
          have HI2 := Lib.hid (row_ints hr2)
          have HCU := Lib.hid (chosenL_cut hcut)
          have HC1 := Lib.hid (chosenL_inc C J.length)
          have HC2 := Lib.hid (chosenL_inc T S.length)
          have HB3 := Lib.hid (below_step HB.out hso.bel)
          obtain ⟨cl, hcl⟩ : ∃ l, chosenL C J.length = l := ⟨_, rfl⟩
          obtain ⟨tl, htl⟩ : ∃ l, chosenL T S.length = l := ⟨_, rfl⟩
          rw [hcl] at HI1 HCU HC1 ⊢
          rw [htl] at HI2 HCU HC2 ⊢
          clear hso hr1 hr2 hcut hcl htl HSC HNO
          have hba : Below W3.heap.size W3 (W3.alloc (.cells #[.slice o1 cl.length c1, .slice o2 tl.length c2] 30)) := below_alloc (Below.refl _ _) _
          have HCC := Lib.hid (checkCut_ok (W3.alloc (.cells #[.slice o1 cl.length c1, .slice o2 tl.length c2] 30)) J S cl tl oj os o1 o2 cj cs c1 c2 (HJ.out.later (below_step HB3.out hba)) (HS.out.later (below_step HB3.out hba)) (HI1.out.later hba) (HI2.out.later hba) HV.out HC1.out HC2.out HCU.out)
          have HB4 := Lib.hid (below_step HB3.out hba)
          clear hba
          go_wp2_with fail
          refine HCC.out.mono ?_
          rintro _ W5 ⟨rfl, hb5⟩
          have HB5 := Lib.hid (below_step HB4.out hb5)
          clear hb5 HCC
          go_wp2
          go_ret
          exact ⟨rfl, HB5.out⟩
      · cases b with
        | false =>
          have HNO : Hid (∃ q, ¬ OkSet J S q) := Lib.hid (by
            rcases HSI.out with ⟨h, _⟩ | ⟨_, h⟩
            · cases h
            · exact h)
          have dl : decide ((s : Int) < (M : Int)) = false := decide_eq_false (by omega)
          have dl2 : decide (s < M) = false := decide_eq_false hlt
          have HSC := Lib.hid (sched_any wA J S oj os cj cs (HJ.out.later HB.out) (HS.out.later HB.out) HV.out)
          go_wp2_with fail
          refine HSC.out.mono ?_
          rintro _ W3 hso
          rcases hso.ex with ⟨AL, OB, L, P, _, _, _, _, _, _, hP⟩ | ⟨v1, v2, C, T, rfl, hr1, hr2, hcut⟩
          · obtain ⟨q, hq⟩ := HNO.out
            exact absurd (hall_no hq hP) id
          obtain ⟨o1, c1, rfl, _⟩ := ownsRow_shapeQ hr1
          obtain ⟨o2, c2, rfl, _⟩ := ownsRow_shapeQ hr2
          have HI1 := Lib.hid (row_ints hr1)
          have HI2 := Lib.hid (row_ints hr2)
          have HCU := Lib.hid (chosenL_cut hcut)
          have HC1 := Lib.hid (chosenL_inc C J.length)
          have HC2 := Lib.hid (chosenL_inc T S.length)
          have HB3 := Lib.hid (below_step HB.out hso.bel)
          obtain ⟨cl, hcl⟩ : ∃ l, chosenL C J.length = l := ⟨_, rfl⟩
          obtain ⟨tl, htl⟩ : ∃ l, chosenL T S.length = l := ⟨_, rfl⟩
          rw [hcl] at HI1 HCU HC1 ⊢
          rw [htl] at HI2 HCU HC2 ⊢
          clear hso hr1 hr2 hcut hcl htl HSC HNO
          have hba : Below W3.heap.size W3 (W3.alloc (.cells #[.slice o1 cl.length c1, .slice o2 tl.length c2] 30)) := below_alloc (Below.refl _ _) _
          have HCC := Lib.hid (checkCut_ok (W3.alloc (.cells #[.slice o1 cl.length c1, .slice o2 tl.length c2] 30)) J S cl tl oj os o1 o2 cj cs c1 c2 (HJ.out.later (below_step HB3.out hba)) (HS.out.later (below_step HB3.out hba)) (HI1.out.later hba) (HI2.out.later hba) HV.out HC1.out HC2.out HCU.out)
          have HB4 := Lib.hid (below_step HB3.out hba)
          clear hba
          go_wp2_with fail
          refine HCC.out.mono ?_
          rintro _ W5 ⟨rfl, hb5⟩
          have HB5 := Lib.hid (below_step HB4.out hb5)
          clear hb5 HCC
          go_wp2
          go_ret
          exact ⟨rfl, HB5.out⟩
        | true =>
          have HAL : Hid (∀ q, 1 ≤ q → q < M → OkSet J S q) := Lib.hid (by
            rcases HSI.out with ⟨_, h⟩ | ⟨h, _⟩
            · exact fun q h1 h2 => h q h1 (by omega)
            · cases h)
          have dl : decide ((s : Int) < (M : Int)) = false := decide_eq_false (by omega)
          have dl2 : decide (s < M) = false := decide_eq_false hlt
          have HSC := Lib.hid (sched_any wA J S oj os cj cs (HJ.out.later HB.out) (HS.out.later HB.out) HV.out)
          go_wp2_with fail
          refine HSC.out.mono ?_
          rintro _ W3 hso
          rcases hso.ex with ⟨AL, OB, L, P, rfl, _, hob, hal, hll, hlv, hP⟩ | ⟨_, _, C, T, _, _, _, hcut⟩
          · have HPL := Lib.hid (sched_plan hob hal hll hlv)
            have HB3 := Lib.hid (below_step HB.out hso.bel)
            have HP := Lib.hid hP
            clear hso hob hal hll hlv hP HSC HYES
            have hba : Below W3.heap.size W3 (W3.alloc (.cells #[.slice none 0 0, .slice none 0 0] 30)) := below_alloc (Below.refl _ _) _
            have HCC := Lib.hid (checkPlan_ok (W3.alloc (.cells #[.slice none 0 0, .slice none 0 0] 30)) J S P oj os (some ⟨OB, 0, none⟩) cj cs J.length (HJ.out.later (below_step HB3.out hba)) (HS.out.later (below_step HB3.out hba)) (HPL.out.later hba) HV.out HP.out)
            have HB4 := Lib.hid (below_step HB3.out hba)
            clear hba
            go_wp2_with fail
            refine HCC.out.mono ?_
            rintro _ W5 ⟨rfl, hb5⟩
            have HB5 := Lib.hid (below_step HB4.out hb5)
            clear hb5 HCC
            go_wp2
            go_ret
            exact ⟨rfl, HB5.out⟩
          · exact (HYES.out C T hcut HAL.out).elim
theorem hallTop (J : List Jb) (oj : Option Addr) (cj : Nat) (S : List Int) (os : Option Addr) (cs : Nat) (w : World) (hj : JobsM w oj J) (hbj : J.length ≤ 9223372036854775807) (hs : Ints w os S) (hbs : S.length ≤ 9223372036854775807) :
    Calls Try.prog 3 #[.slice oj J.length cj, .slice os S.length cs] w (Ret (.bool true) w) := hall_any w J S oj os cj cs hj hs hbj hbs
end Go.Proofs.Ythgkfdhkmkbioaa
