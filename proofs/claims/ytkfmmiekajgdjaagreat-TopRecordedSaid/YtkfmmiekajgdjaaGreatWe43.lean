/- Package auditor: validArticle. -/
import Derived.Test.YtkfmmiekajgdjaaGreatWd43
import Derived.Deep.Cut
import Derived.Deep.CutRange
import Derived.Deep.DeepCutAuto
namespace Go.Proofs.YtkfmmiekajgdjaaGreat
open Go.RowKit
attribute [local go_sem] Oper.semAt_some

structure Art where
  k : Int
  d : Int
  f : Int
  t : Int
  p : Int
  u : Int
  r : Int
def Art.zero : Art := ⟨0, 0, 0, 0, 0, 0, 0⟩
@[reducible] def artC (a : Art) : List Value := [.int .i64 a.k, .int .i64 a.d, .int .i64 a.f, .int .i64 a.t, .int .i64 a.p, .int .i64 a.u, .int .i64 a.r]
@[reducible] def artV (a : Art) : Value := .agg #[.int .i64 a.k, .int .i64 a.d, .int .i64 a.f, .int .i64 a.t, .int .i64 a.p, .int .i64 a.u, .int .i64 a.r]
def insB (n a b : Int) : Bool := decide (a ≤ n) && decide (n ≤ b)
def wholeB (a : Art) : Bool := (a.f == 0) && ((a.t == 1440) && (a.d == 7))
def noneB (a : Art) : Bool := (a.u == 0) && (a.r == 0)
def headB (a : Art) : Bool := (insB a.k 1 6 && insB a.d 1 7) && (insB a.f 0 1439 && (!decide (a.t ≤ a.f) && !decide (1440 < a.t)))
def tailB (a : Art) : Bool :=
  if a.k = 3 ∨ a.k = 4 then insB a.p 0 1000000 && (insB a.u 1 1440 && insB a.r 0 1440)
  else if a.k = 5 then insB a.p 0 1000000 && (noneB a && wholeB a)
  else if a.k = 6 then insB a.p 0 10000 && (noneB a && wholeB a)
  else insB a.p 0 1000000 && noneB a
def artA (a : Art) : Bool := headB a && tailB a
theorem insB_eq (n a b : Int) : (decide (a ≤ n) && decide (n ≤ b)) = insB n a b := rfl

set_option maxRecDepth 100000 in
set_option maxHeartbeats 16000000 in
theorem validArticleA_any (a : Art) (w : World) : Calls Tryz.prog 75 #[artV a] w (Ret (.bool (artA a)) w) := by
  obtain ⟨V, hV⟩ : ∃ V, artA a = V := ⟨_, rfl⟩
  rw [hV]
  have HV := Lib.hid (show (headB a && tailB a) = V from hV)
  clear hV
  go_enter Tryz.func75, Tryz.ntmps75
  go_upto_region 1 with (fail)
  obtain ⟨W1, hW1⟩ : ∃ W1, W1 = w.alloc (.cells #[.int .i64 a.k, .int .i64 a.d, .int .i64 a.f, .int .i64 a.t, .int .i64 a.p, .int .i64 a.u, .int .i64 a.r] 72) := ⟨_, rfl⟩
  have HX := Lib.hid (show Blk W1 w.heap.size 72 #[.int .i64 a.k, .int .i64 a.d, .int .i64 a.f, .int .i64 a.t, .int .i64 a.p, .int .i64 a.u, .int .i64 a.r] by rw [hW1]; exact Blk.new _ _ _)
  have HB := Lib.hid (show Below w.heap.size w W1 by rw [hW1]; exact below_alloc (Below.refl _ _) _)
  try rw [← hW1]
  clear hW1
  obtain ⟨B, hB⟩ : ∃ B, w.heap.size = B := ⟨_, rfl⟩
  rw [hB] at HX ⊢
  clear hB
  have x0 : W1.cell? ⟨B, 0, none⟩ = some (.int .i64 a.k) := HX.out.cell 0
  have x1 : W1.cell? ⟨B, 1, none⟩ = some (.int .i64 a.d) := HX.out.cell 1
  have x2 : W1.cell? ⟨B, 2, none⟩ = some (.int .i64 a.f) := HX.out.cell 2
  have x3 : W1.cell? ⟨B, 3, none⟩ = some (.int .i64 a.t) := HX.out.cell 3
  have x4 : W1.cell? ⟨B, 4, none⟩ = some (.int .i64 a.p) := HX.out.cell 4
  have x5 : W1.cell? ⟨B, 5, none⟩ = some (.int .i64 a.u) := HX.out.cell 5
  have x6 : W1.cell? ⟨B, 6, none⟩ = some (.int .i64 a.r) := HX.out.cell 6
  clear HX
  go_wp2_with fail
  refine (insideA_any _ _ _ W1).mono ?_
  rintro _ _ ⟨rfl, rfl⟩
  rw [insB_eq]
  obtain ⟨b1, hb1⟩ : ∃ b, insB a.k 1 6 = b := ⟨_, rfl⟩
  rw [hb1]
  have Hb1 := Lib.hid hb1
  clear hb1
  cases b1 with
  | false =>
    obtain rfl : false = V := by rw [← HV.out]; unfold headB; rw [Hb1.out]; rfl
    go_wp2
    go_ret
    exact ⟨rfl, HB.out⟩
  | true =>
  go_wp2_with fail
  refine (insideA_any _ _ _ W1).mono ?_
  rintro _ _ ⟨rfl, rfl⟩
  rw [insB_eq]
  obtain ⟨b2, hb2⟩ : ∃ b, insB a.d 1 7 = b := ⟨_, rfl⟩
  rw [hb2]
  have Hb2 := Lib.hid hb2
  clear hb2
  cases b2 with
  | false =>
    obtain rfl : false = V := by rw [← HV.out]; unfold headB; rw [Hb1.out, Hb2.out]; rfl
    go_wp2
    go_ret
    exact ⟨rfl, HB.out⟩
  | true =>
  go_wp2_with fail
  refine (insideA_any _ _ _ W1).mono ?_
  rintro _ _ ⟨rfl, rfl⟩
  rw [insB_eq]
  obtain ⟨b3, hb3⟩ : ∃ b, insB a.f 0 1439 = b := ⟨_, rfl⟩
  rw [hb3]
  have Hb3 := Lib.hid hb3
  clear hb3
  cases b3 with
  | false =>
    obtain rfl : false = V := by rw [← HV.out]; unfold headB; rw [Hb1.out, Hb2.out, Hb3.out]; rfl
    go_wp2
    go_ret
    exact ⟨rfl, HB.out⟩
  | true =>
  by_cases ht : a.t ≤ a.f
  · have dt : decide (a.t ≤ a.f) = true := decide_eq_true ht
    obtain rfl : false = V := by rw [← HV.out]; unfold headB; rw [dt, Hb1.out, Hb2.out, Hb3.out]; rfl
    clear ht
    go_wp2
    go_ret
    exact ⟨rfl, HB.out⟩
  have dt : decide (a.t ≤ a.f) = false := decide_eq_false ht
  by_cases hq : 1440 < a.t
  · have dq : decide (1440 < a.t) = true := decide_eq_true hq
    obtain rfl : false = V := by rw [← HV.out]; unfold headB; rw [dt, dq, Hb1.out, Hb2.out, Hb3.out]; rfl
    clear ht hq
    go_wp2
    go_ret
    exact ⟨rfl, HB.out⟩
  have dq : decide (1440 < a.t) = false := decide_eq_false hq
  have HT := Lib.hid (show tailB a = V by rw [← HV.out]; unfold headB; rw [dt, dq, Hb1.out, Hb2.out, Hb3.out]; rfl)
  clear HV Hb1 Hb2 Hb3 ht hq
  go_upto_region 5 with (fail)
  clear dt dq
  go_cut [3] from 32 to 44 (fun v wc => v = .bool (wholeB a) ∧ W1 = wc)
  case first =>
    obtain ⟨c1, h1⟩ : ∃ b, (a.f == 0) = b := ⟨_, rfl⟩
    cases c1 with
    | false =>
      have HW := Lib.hid (show wholeB a = false by unfold wholeB; rw [h1]; rfl)
      go_wp2_with fail
      go_meet
      case rel => exact ⟨by rw [HW.out], rfl⟩
    | true =>
    obtain ⟨c2, h2⟩ : ∃ b, (a.t == 1440) = b := ⟨_, rfl⟩
    cases c2 with
    | false =>
      have HW := Lib.hid (show wholeB a = false by unfold wholeB; rw [h1, h2]; rfl)
      go_wp2_with fail
      go_meet
      case rel => exact ⟨by rw [HW.out], rfl⟩
    | true =>
    have HW := Lib.hid (show wholeB a = (a.d == 7) by unfold wholeB; rw [h1, h2]; rfl)
    go_wp2_with fail
    go_meet
    case rel => exact ⟨by rw [HW.out], rfl⟩
  case rest =>
    obtain ⟨rfl, rfl⟩ := hcut
    obtain ⟨WB, hWB⟩ : ∃ b, wholeB a = b := ⟨_, rfl⟩
    rw [hWB]
    have HWB := Lib.hid hWB
    clear hWB
    go_upto_region 6 with (fail)
    go_cut [4] from 45 to 52 (fun v wc => v = .bool (noneB a) ∧ W1 = wc)
    case first =>
      obtain ⟨c1, h1⟩ : ∃ b, (a.u == 0) = b := ⟨_, rfl⟩
      cases c1 with
      | false =>
        have HW := Lib.hid (show noneB a = false by unfold noneB; rw [h1]; rfl)
        go_wp2_with fail
        go_meet
        case rel => exact ⟨by rw [HW.out], rfl⟩
      | true =>
      have HW := Lib.hid (show noneB a = (a.r == 0) by unfold noneB; rw [h1]; rfl)
      go_wp2_with fail
      go_meet
      case rel => exact ⟨by rw [HW.out], rfl⟩
    case rest =>
      obtain ⟨rfl, rfl⟩ := hcut
      obtain ⟨NB, hNB⟩ : ∃ b, noneB a = b := ⟨_, rfl⟩
      rw [hNB]
      have HNB := Lib.hid hNB
      clear hNB
      go_wp2_with fail
      refine (insideA_any _ _ _ W1).mono ?_
      rintro _ _ ⟨rfl, rfl⟩
      rw [insB_eq]
      obtain ⟨pb, hpb⟩ : ∃ b, insB a.p 0 1000000 = b := ⟨_, rfl⟩
      rw [hpb]
      have Hpb := Lib.hid hpb
      clear hpb
      by_cases k3 : a.k = 3 ∨ a.k = 4
      · have HT2 := Lib.hid (show (insB a.p 0 1000000 && (insB a.u 1 1440 && insB a.r 0 1440)) = V by rw [← HT.out]; unfold tailB; rw [if_pos k3])
        rw [Hpb.out] at HT2
        have HK3 : Hid ((a.k == 3) = true ∨ ((a.k == 3) = false ∧ (a.k == 4) = true)) := Lib.hid (by
          by_cases h : a.k = 3
          · left; simpa using h
          · right; exact ⟨by simpa using h, by simpa using k3.resolve_left h⟩)
        clear k3 HT
        rcases HK3.out with q3 | ⟨q3, q4⟩
        all_goals
          clear HK3
          cases pb with
          | false =>
            obtain rfl : false = V := by rw [← HT2.out]; rfl
            go_wp2
            go_ret
            exact ⟨rfl, HB.out⟩
          | true =>
          go_wp2_with fail
          refine (insideA_any _ _ _ W1).mono ?_
          rintro _ _ ⟨rfl, rfl⟩
          rw [insB_eq]
          obtain ⟨ub, hub⟩ : ∃ b, insB a.u 1 1440 = b := ⟨_, rfl⟩
          rw [hub] at HT2 ⊢
          clear hub
          cases ub with
          | false =>
            obtain rfl : false = V := by rw [← HT2.out]; rfl
            go_wp2
            go_ret
            exact ⟨rfl, HB.out⟩
          | true =>
          go_wp2_with fail
          refine (insideA_any _ _ _ W1).mono ?_
          rintro _ _ ⟨rfl, rfl⟩
          rw [insB_eq]
          obtain ⟨rb, hrb⟩ : ∃ b, insB a.r 0 1440 = b := ⟨_, rfl⟩
          rw [hrb] at HT2 ⊢
          clear hrb
          obtain rfl : rb = V := by rw [← HT2.out]; rfl
          go_wp2
          go_ret
          exact ⟨rfl, HB.out⟩
      have q3 : (a.k == 3) = false := by simpa using fun h => k3 (.inl h)
      have q4 : (a.k == 4) = false := by simpa using fun h => k3 (.inr h)
      by_cases k5 : a.k = 5
      · have HT2 := Lib.hid (show (insB a.p 0 1000000 && (noneB a && wholeB a)) = V by rw [← HT.out]; unfold tailB; rw [if_neg k3, if_pos k5])
        rw [Hpb.out, HNB.out, HWB.out] at HT2
        have q5 : (a.k == 5) = true := by simpa using k5
        clear k3 k5 HT
        cases pb with
        | false =>
          obtain rfl : false = V := by rw [← HT2.out]; rfl
          go_wp2
          go_ret
          exact ⟨rfl, HB.out⟩
        | true =>
        cases NB with
        | false =>
          obtain rfl : false = V := by rw [← HT2.out]; rfl
          go_wp2
          go_ret
          exact ⟨rfl, HB.out⟩
        | true =>
        obtain rfl : WB = V := by rw [← HT2.out]; rfl
        go_wp2
        go_ret
        exact ⟨rfl, HB.out⟩
      have q5 : (a.k == 5) = false := by simpa using k5
      by_cases k6 : a.k = 6
      · have HT2 := Lib.hid (show (insB a.p 0 10000 && (noneB a && wholeB a)) = V by rw [← HT.out]; unfold tailB; rw [if_neg k3, if_neg k5, if_pos k6])
        rw [HNB.out, HWB.out] at HT2
        have q6 : (a.k == 6) = true := by simpa using k6
        clear k3 k5 k6 HT
        go_wp2_with fail
        refine (insideA_any _ _ _ W1).mono ?_
        rintro _ _ ⟨rfl, rfl⟩
        rw [insB_eq]
        obtain ⟨ub, hub⟩ : ∃ b, insB a.p 0 10000 = b := ⟨_, rfl⟩
        rw [hub] at HT2 ⊢
        clear hub
        cases ub with
        | false =>
          obtain rfl : false = V := by rw [← HT2.out]; rfl
          go_wp2
          go_ret
          exact ⟨rfl, HB.out⟩
        | true =>
        cases NB with
        | false =>
          obtain rfl : false = V := by rw [← HT2.out]; rfl
          go_wp2
          go_ret
          exact ⟨rfl, HB.out⟩
        | true =>
        obtain rfl : WB = V := by rw [← HT2.out]; rfl
        go_wp2
        go_ret
        exact ⟨rfl, HB.out⟩
      have q6 : (a.k == 6) = false := by simpa using k6
      have HT2 := Lib.hid (show (insB a.p 0 1000000 && noneB a) = V by rw [← HT.out]; unfold tailB; rw [if_neg k3, if_neg k5, if_neg k6])
      rw [Hpb.out, HNB.out] at HT2
      clear k3 k5 k6 HT
      cases pb with
      | false =>
        obtain rfl : false = V := by rw [← HT2.out]; rfl
        go_wp2
        go_ret
        exact ⟨rfl, HB.out⟩
      | true =>
      obtain rfl : NB = V := by rw [← HT2.out]; rfl
      go_wp2
      go_ret
      exact ⟨rfl, HB.out⟩
end Go.Proofs.YtkfmmiekajgdjaaGreat