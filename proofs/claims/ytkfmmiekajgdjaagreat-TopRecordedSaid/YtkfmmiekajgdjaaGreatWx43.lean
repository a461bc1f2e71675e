/- Packages parser and tariff: the tree of a name; articles. -/
import Derived.Test.YtkfmmiekajgdjaaGreatWw43
import Derived.Test.YtkfmmiekajgdjaaGreatMa43
import Derived.BigRegion
namespace Go.Proofs.YtkfmmiekajgdjaaGreat
open Go.RowKit
attribute [local go_sem] Oper.semAt_some

@[reducible] def itemV (s : ByteArray) : Value := .agg #[.int .i64 2, .string s, .int .i64 3, .int .i64 0, .slice none 0 0]
set_option maxRecDepth 100000 in
set_option maxHeartbeats 8000000 in
theorem validItem_any (s : ByteArray) (g : Nat) (w : World) (hl : s.size ≤ 9000000000000000000) (hg : Blk w g 3 #[.int .i64 1498]) : Calls Tryz.prog 79 #[itemV s, .pointer (some ⟨g, 0, none⟩)] w (fun e w' => e = .returned (.bool (nameA s)) ∧ Agr w w' [g]) := by
  have HG := Lib.hid hg
  clear hg
  obtain ⟨b, hb⟩ : ∃ b, nameA s = b := ⟨_, rfl⟩
  have HN := Lib.hid hb
  rw [hb]
  clear hb
  go_enter Tryz.func79, Tryz.ntmps79
  go_upto_region 1 with (fail)
  obtain ⟨W1, hW1⟩ : ∃ W, W = w.alloc (.cells #[.int .i64 2, .string s, .int .i64 3, .int .i64 0, .slice none 0 0] 135) := ⟨_, rfl⟩
  have HQ := Lib.hid (show Blk W1 w.heap.size 135 #[.int .i64 2, .string s, .int .i64 3, .int .i64 0, .slice none 0 0] by rw [hW1]; exact Blk.new _ _ _)
  have HA := Lib.hid (show Agr w W1 [g] by rw [hW1]; exact (Agr.refl _ _).alloc _)
  have HGL := Lib.hid HG.out.lt
  replace HG := Lib.hid (show Blk W1 g 3 #[.int .i64 1498] by rw [hW1]; exact HG.out.alloc _)
  rw [← hW1]
  clear hW1
  obtain ⟨Q, hQ⟩ : ∃ Q, w.heap.size = Q := ⟨_, rfl⟩
  rw [hQ] at HQ HGL ⊢
  clear hQ
  have x0 : W1.cell? ⟨Q, 0, none⟩ = some (.int .i64 2) := HQ.out.cell 0
  have x1 : W1.cell? ⟨Q, 1, none⟩ = some (.string s) := HQ.out.cell 1
  have x2 : W1.cell? ⟨Q, 2, none⟩ = some (.int .i64 3) := HQ.out.cell 2
  have x4 : W1.cell? ⟨Q, 4, none⟩ = some (.slice none 0 0) := HQ.out.cell 4
  have g0 : W1.cell? ⟨g, 0, none⟩ = some (.int .i64 1498) := HG.out.cell 0
  have gz := HG.out.frozen 0
  have hne : ¬ g = Q := by have := HGL.out; omega
  have hne' : ¬ Q = g := by have := HGL.out; omega
  go_wp2_with fail
  refine (goodName_any s W1 hl).mono ?_
  rintro _ _ ⟨rfl, rfl⟩
  rw [HN.out]
  cases b with
  | false =>
    go_wp2
    go_ret
    exact ⟨rfl, HA.out⟩
  | true =>
  go_upto_region 3 with (fail)
  go_region
  all_goals
    have HA2 := Lib.hid (show Agr w (W1.setCell ⟨g, 0, none⟩ (.int .i64 1498)) [g] from HA.out.set (by simp))
    go_wp2
    go_loop [5, 42] (fun v i => v = .bool false ∧ i = .int .i64 0) (fun _ _ => 0)
    case atStart => exact ⟨rfl, rfl⟩
    case round =>
      obtain ⟨rfl, rfl⟩ := hrel
      go_wp2
      go_ret
      exact ⟨rfl, HA2.out.drewN 1⟩
set_option maxRecDepth 100000 in
set_option maxHeartbeats 8000000 in
theorem pValid_any (s : ByteArray) (b : Nat) (w : World) (hl : s.size ≤ 9000000000000000000) (hb : Blk w b 135 #[.int .i64 2, .string s, .int .i64 3, .int .i64 0, .slice none 0 0]) : Calls Tryz.prog 62 #[.agg #[.int .i64 1, .string ⟨#[]⟩, .int .i64 0, .int .i64 0, .slice (some ⟨b, 0, none⟩) 1 1]] w (Ret (.bool (nameA s)) w) := by
  have HK := Lib.hid hb
  have HKL := Lib.hid hb.lt
  clear hb
  obtain ⟨V, hV⟩ : ∃ V, nameA s = V := ⟨_, rfl⟩
  have HV := Lib.hid hV
  rw [hV]
  clear hV
  go_enter Tryz.func62, Tryz.ntmps62
  go_upto_region 2 with (fail)
  obtain ⟨wq, hwq⟩ : ∃ W, W = w.alloc (.cells #[.int .i64 1, .string ⟨#[]⟩, .int .i64 0, .int .i64 0, .slice (some ⟨b, 0, none⟩) 1 1] 135) := ⟨_, rfl⟩
  obtain ⟨W1, hW1⟩ : ∃ W, W = wq.alloc (.cells #[.int .i64 1498] 3) := ⟨_, rfl⟩
  have hsq : wq.heap.size = w.heap.size + 1 := by rw [hwq, World.size_alloc]
  have HQ := Lib.hid (show Blk W1 w.heap.size 135 #[.int .i64 1, .string ⟨#[]⟩, .int .i64 0, .int .i64 0, .slice (some ⟨b, 0, none⟩) 1 1] by rw [hW1]; refine Blk.alloc ?_ _; rw [hwq]; exact Blk.new _ _ _)
  have HG := Lib.hid (show Blk W1 (w.heap.size + 1) 3 #[.int .i64 1498] by rw [hW1, ← hsq]; exact Blk.new _ _ _)
  have HB := Lib.hid (show Below w.heap.size w W1 by rw [hW1, hwq]; exact below_alloc (below_alloc (Below.refl _ _) _) _)
  have hS1 : W1 = (w.alloc (.cells #[.int .i64 1, .string ⟨#[]⟩, .int .i64 0, .int .i64 0, .slice (some ⟨b, 0, none⟩) 1 1] 135)).alloc (.cells #[.int .i64 1498] 3) := by rw [hW1, hwq]
  obtain ⟨g, hg⟩ : ∃ P, P = w.heap.size + 1 := ⟨_, rfl⟩
  obtain ⟨Q, hQ⟩ : ∃ Q, Q = w.heap.size := ⟨_, rfl⟩
  have HGQ := Lib.hid (show g = Q + 1 ∧ Q = w.heap.size from ⟨by rw [hg, hQ], hQ⟩)
  try rw [← hS1]
  try rw [← hg] at HG ⊢
  try rw [← hQ] at HQ HKL ⊢
  replace HK := Lib.hid (HK.out.later HB.out)
  clear hg hQ hS1 hW1 hwq hsq
  have x0 : W1.cell? ⟨Q, 0, none⟩ = some (.int .i64 1) := HQ.out.cell 0
  have x1 : W1.cell? ⟨Q, 1, none⟩ = some (.string ⟨#[]⟩) := HQ.out.cell 1
  have x2 : W1.cell? ⟨Q, 2, none⟩ = some (.int .i64 0) := HQ.out.cell 2
  have x4 : W1.cell? ⟨Q, 4, none⟩ = some (.slice (some ⟨b, 0, none⟩) 1 1) := HQ.out.cell 4
  have g0 : W1.cell? ⟨g, 0, none⟩ = some (.int .i64 1498) := HG.out.cell 0
  go_wp2
  go_loopw [30] (fun i wr => ∃ k : Nat, k ≤ 1 ∧ i = .int .i64 k ∧ Below w.heap.size w wr ∧ (k = 0 → wr = W1) ∧ (k = 1 → V = true)) (fun i _ => 1 - (intOf i).toNat)
  case atStart => exact ⟨0, by omega, rfl, HB.out, fun _ => rfl, fun h => by omega⟩
  case round =>
    obtain ⟨k, hk, rfl, hbw, h0, h1⟩ := hrel
    by_cases hlt : k < 1
    · obtain rfl : k = 0 := by omega
      obtain rfl := h0 rfl
      clear h0 h1 hbw
      have y0 : wr.cell? ⟨b, 0, none⟩ = some (.int .i64 2) := HK.out.cell 0
      have y1 : wr.cell? ⟨b, 1, none⟩ = some (.string s) := HK.out.cell 1
      have y2 : wr.cell? ⟨b, 2, none⟩ = some (.int .i64 3) := HK.out.cell 2
      have y3 : wr.cell? ⟨b, 3, none⟩ = some (.int .i64 0) := HK.out.cell 3
      have y4 : wr.cell? ⟨b, 4, none⟩ = some (.slice none 0 0) := HK.out.cell 4
      go_wp2_with fail
      have HG2 := Lib.hid (HG.out.alloc (.cells #[.int .i64 2, .string s, .int .i64 3, .int .i64 0, .slice none 0 0] 135))
      refine (validItem_any s g _ hl HG2.out).mono ?_
      rintro _ W2 ⟨rfl, hag⟩
      have HB2 := Lib.hid (show Below w.heap.size w W2 from hag.below (below_alloc HB.out _) (by have := HGQ.out; intro z hz; obtain rfl := List.mem_singleton.1 hz; omega))
      rw [HV.out]
      clear hag y0 y1 y2 y3 y4 x0 x1 x2 x4 g0
      cases V with
      | false =>
        go_wp2
        go_ret
        exact ⟨rfl, HB2.out⟩
      | true =>
        go_wp2
        go_roundw
        case rel => exact ⟨1, by omega, rfl, HB2.out, fun h => by omega, fun _ => by first | rfl | trivial⟩
        case measure => simp [intOf]
    · obtain rfl : k = 1 := by omega
      obtain rfl := h1 rfl
      have HBW := Lib.hid hbw
      clear h0 h1 hbw
      go_wp2
      go_ret
      exact ⟨rfl, HBW.out⟩
set_option maxHeartbeats 4000000 in
theorem tinside_any (n a b : Int) (w : World) : Calls Tryz.prog 80 #[.int .i64 n, .int .i64 a, .int .i64 b] w (fun e w' => e = .returned (.bool (insB n a b)) ∧ w = w') := by
  obtain ⟨V, hV⟩ : ∃ V, insB n a b = V := ⟨_, rfl⟩
  have HV := Lib.hid (show (decide (a ≤ n) && decide (n ≤ b)) = V from hV)
  rw [hV]
  clear hV
  go_enter Tryz.func80, Tryz.ntmps80
  obtain ⟨d, hd⟩ : ∃ d, decide (a ≤ n) = d := ⟨_, rfl⟩
  rw [hd] at HV
  cases d with
  | true =>
    obtain rfl := HV.out
    go_wp2
    go_ret
    exact ⟨rfl, rfl⟩
  | false =>
    obtain rfl : false = V := HV.out
    go_wp2
    go_ret
    exact ⟨rfl, rfl⟩
def twoB (k a b : Int) : Bool := (k == a) || (k == b)
set_option maxHeartbeats 4000000 in
theorem tisWhole_any (k : Int) (w : World) : Calls Tryz.prog 81 #[.int .i64 k] w (fun e w' => e = .returned (.bool (twoB k 5 6)) ∧ w = w') := by
  obtain ⟨V, hV⟩ : ∃ V, twoB k 5 6 = V := ⟨_, rfl⟩
  have HV := Lib.hid (show ((k == 5) || (k == 6)) = V from hV)
  rw [hV]
  clear hV
  go_enter Tryz.func81, Tryz.ntmps81
  obtain ⟨d, hd⟩ : ∃ d, (k == 5) = d := ⟨_, rfl⟩
  rw [hd] at HV
  cases d with
  | true =>
    obtain rfl : true = V := HV.out
    go_wp2
    go_ret
    exact ⟨rfl, rfl⟩
  | false =>
    obtain rfl := HV.out
    go_wp2
    go_ret
    exact ⟨rfl, rfl⟩
set_option maxHeartbeats 4000000 in
theorem tisTime_any (k : Int) (w : World) : Calls Tryz.prog 82 #[.int .i64 k] w (fun e w' => e = .returned (.bool (twoB k 3 4)) ∧ w = w') := by
  obtain ⟨V, hV⟩ : ∃ V, twoB k 3 4 = V := ⟨_, rfl⟩
  have HV := Lib.hid (show ((k == 3) || (k == 4)) = V from hV)
  rw [hV]
  clear hV
  go_enter Tryz.func82, Tryz.ntmps82
  obtain ⟨d, hd⟩ : ∃ d, (k == 3) = d := ⟨_, rfl⟩
  rw [hd] at HV
  cases d with
  | true =>
    obtain rfl : true = V := HV.out
    go_wp2
    go_ret
    exact ⟨rfl, rfl⟩
  | false =>
    obtain rfl := HV.out
    go_wp2
    go_ret
    exact ⟨rfl, rfl⟩
def headT (a : Art) : Bool := insB a.k 1 6 && (insB a.f 0 1439 && (insB a.t (a.f + 1) 1440 && insB a.d 1 7))
def tailT (a : Art) : Bool := if twoB a.k 3 4 = true then insB a.u 1 1440 && insB a.r 0 1440 else noneB a
def artT (a : Art) : Bool := headT a && ((!twoB a.k 5 6 || wholeB a) && (insB a.p 0 (if a.k = 6 then 10000 else 1000000) && tailT a))
theorem head_T (a : Art) : headB a = headT a := by
  have h : insB a.t (a.f + 1) 1440 = (!decide (a.t ≤ a.f) && !decide (1440 < a.t)) := by
    unfold insB
    rw [Bool.eq_iff_iff]
    simp
    omega
  unfold headB headT
  rw [h]
  cases insB a.k 1 6 <;> cases insB a.d 1 7 <;> cases insB a.f 0 1439 <;> simp
theorem artA_T (a : Art) : artA a = artT a := by
  unfold artA artT
  rw [head_T]
  congr 1
  unfold tailB tailT twoB
  by_cases k3 : a.k = 3
  · simp [k3]
  · by_cases k4 : a.k = 4
    · simp [k4]
    · by_cases k5 : a.k = 5
      · simp [k5]; cases insB a.p 0 1000000 <;> cases noneB a <;> cases wholeB a <;> rfl
      · by_cases k6 : a.k = 6
        · simp [k6]; cases insB a.p 0 10000 <;> cases noneB a <;> cases wholeB a <;> rfl
        · have e3 : (a.k == 3) = false := by simpa using k3
          have e4 : (a.k == 4) = false := by simpa using k4
          have e5 : (a.k == 5) = false := by simpa using k5
          have e6 : (a.k == 6) = false := by simpa using k6
          simp [k3, k4, k5, k6, e3, e4, e5, e6]
set_option maxRecDepth 100000 in
set_option maxHeartbeats 16000000 in
theorem validArticleT_any (a : Art) (w : World) : Calls Tryz.prog 63 #[artV a] w (Ret (.bool (artA a)) w) := by
  rw [artA_T]
  obtain ⟨V, hV⟩ : ∃ V, artT a = V := ⟨_, rfl⟩
  rw [hV]
  have HV := Lib.hid (show ((insB a.k 1 6 && (insB a.f 0 1439 && (insB a.t (a.f + 1) 1440 && insB a.d 1 7))) && ((!twoB a.k 5 6 || wholeB a) && (insB a.p 0 (if a.k = 6 then 10000 else 1000000) && tailT a))) = V from hV)
  have HTT := Lib.hid (show tailT a = if twoB a.k 3 4 = true then insB a.u 1 1440 && insB a.r 0 1440 else noneB a from rfl)
  clear hV
  go_enter Tryz.func63, Tryz.ntmps63
  go_upto_region 1 with (fail)
  obtain ⟨W1, hW1⟩ : ∃ W1, W1 = w.alloc (.cells #[.int .i64 a.k, .int .i64 a.d, .int .i64 a.f, .int .i64 a.t, .int .i64 a.p, .int .i64 a.u, .int .i64 a.r] 72) := ⟨_, rfl⟩
  have HX := Lib.hid (show Blk W1 w.heap.size 72 #[.int .i64 a.k, .int .i64 a.d, .int .i64 a.f, .int .i64 a.t, .int .i64 a.p, .int .i64 a.u, .int .i64 a.r] by rw [hW1]; exact Blk.new _ _ _)
  have HB := Lib.hid (show Below w.heap.size w W1 by rw [hW1]; exact below_alloc (Below.refl _ _) _)
  try rw [← hW1]
  clear hW1
  obtain ⟨B, hB⟩ : ∃ B, w.heap.size = B := ⟨_, rfl⟩
  rw [hB] at HX ⊢
  clear hB
  have x0 : W1.cell? ⟨B, 0, none⟩ = some (.int .i64 a.k) := HX.out.cell 0
  have x1 : W1.cell? ⟨B, 1, none⟩ = some (.int .i64 a.d) := HX.out.cell 1
  have x2 : W1.cell? ⟨B, 2, none⟩ = some (.int .i64 a.f) := HX.out.cell 2
  have x3 : W1.cell? ⟨B, 3, none⟩ = some (.int .i64 a.t) := HX.out.cell 3
  have x4 : W1.cell? ⟨B, 4, none⟩ = some (.int .i64 a.p) := HX.out.cell 4
  have x5 : W1.cell? ⟨B, 5, none⟩ = some (.int .i64 a.u) := HX.out.cell 5
  have x6 : W1.cell? ⟨B, 6, none⟩ = some (.int .i64 a.r) := HX.out.cell 6
  clear HX
  go_wp2_with fail
  refine (tinside_any _ _ _ W1).mono ?_
  rintro _ _ ⟨rfl, rfl⟩
  obtain ⟨b1, hb1⟩ : ∃ b, insB a.k 1 6 = b := ⟨_, rfl⟩
  rw [hb1] at HV ⊢
  have Hb1 := Lib.hid hb1
  clear hb1
  cases b1 with
  | false =>
    obtain rfl : false = V := by rw [← HV.out]; rfl
    go_wp2
    go_ret
    exact ⟨rfl, HB.out⟩
  | true =>
  go_wp2_with fail
  refine (tinside_any _ _ _ W1).mono ?_
  rintro _ _ ⟨rfl, rfl⟩
  obtain ⟨b2, hb2⟩ : ∃ b, insB a.f 0 1439 = b := ⟨_, rfl⟩
  rw [hb2] at HV ⊢
  have Hb2 := Lib.hid hb2
  clear hb2
  cases b2 with
  | false =>
    obtain rfl : false = V := by rw [← HV.out]; rfl
    go_wp2
    go_ret
    exact ⟨rfl, HB.out⟩
  | true =>
  have hf0 : 0 ≤ a.f ∧ a.f ≤ 1439 := by have := Hb2.out; unfold insB at this; simpa using this
  have hf1 := hf0.1
  have hf2 := hf0.2
  clear hf0
  go_wp2_with fail
  refine (tinside_any _ _ _ W1).mono ?_
  rintro _ _ ⟨rfl, rfl⟩
  obtain ⟨b3, hb3⟩ : ∃ b, insB a.t (a.f + 1) 1440 = b := ⟨_, rfl⟩
  rw [hb3] at HV ⊢
  have Hb3 := Lib.hid hb3
  clear hb3
  cases b3 with
  | false =>
    obtain rfl : false = V := by rw [← HV.out]; rfl
    go_wp2
    go_ret
    exact ⟨rfl, HB.out⟩
  | true =>
  clear hf1 hf2
  go_wp2_with fail
  refine (tinside_any _ _ _ W1).mono ?_
  rintro _ _ ⟨rfl, rfl⟩
  obtain ⟨b4, hb4⟩ : ∃ b, insB a.d 1 7 = b := ⟨_, rfl⟩
  rw [hb4] at HV ⊢
  have Hb4 := Lib.hid hb4
  clear hb4
  cases b4 with
  | false =>
    obtain rfl : false = V := by rw [← HV.out]; rfl
    go_wp2
    go_ret
    exact ⟨rfl, HB.out⟩
  | true =>
  replace HV := Lib.hid (show ((!twoB a.k 5 6 || wholeB a) && (insB a.p 0 (if a.k = 6 then 10000 else 1000000) && tailT a)) = V from HV.out)
  clear Hb1 Hb2 Hb3 Hb4
  go_wp2_with fail
  refine (tisWhole_any a.k W1).mono ?_
  rintro _ _ ⟨rfl, rfl⟩
  obtain ⟨wh, hwh⟩ : ∃ b, twoB a.k 5 6 = b := ⟨_, rfl⟩
  rw [hwh] at HV ⊢
  have HWH := Lib.hid hwh
  clear hwh
  have HMEET : Hid (wh = false ∨ (wh = true ∧ wholeB a = true) ∨ (wh = true ∧ wholeB a = false)) := Lib.hid (by cases wh <;> cases wholeB a <;> simp)
  rcases HMEET.out with rfl | ⟨rfl, hw⟩ | ⟨rfl, hw⟩
  rotate_left 2
  · have HW := Lib.hid hw
    clear hw HMEET
    obtain rfl : false = V := by rw [← HV.out, HW.out]; rfl
    obtain ⟨c1, h1⟩ : ∃ b, (a.f == 0) = b := ⟨_, rfl⟩
    obtain ⟨c2, h2⟩ : ∃ b, (a.t == 1440) = b := ⟨_, rfl⟩
    obtain ⟨c3, h3⟩ : ∃ b, (a.d == 7) = b := ⟨_, rfl⟩
    have g1 : (a.f != 0) = !c1 := by unfold bne; rw [h1]
    have g2 : (a.t != 1440) = !c2 := by unfold bne; rw [h2]
    have g3 : (a.d != 7) = !c3 := by unfold bne; rw [h3]
    have HF := Lib.hid (show (c1 && (c2 && c3)) = false by have := HW.out; unfold wholeB at this; rw [h1, h2, h3] at this; exact this)
    clear HW
    cases c1 with
    | false =>
      simp only [Bool.not_false] at g1
      go_wp2
      go_ret
      exact ⟨rfl, HB.out⟩
    | true =>
    simp only [Bool.not_true] at g1
    cases c2 with
    | false =>
      simp only [Bool.not_false] at g2
      go_wp2
      go_ret
      exact ⟨rfl, HB.out⟩
    | true =>
    simp only [Bool.not_true] at g2
    obtain rfl : c3 = false := HF.out
    simp only [Bool.not_false] at g3
    go_wp2
    go_ret
    exact ⟨rfl, HB.out⟩
  rotate_left 1
  · have HW := Lib.hid hw
    clear hw HMEET
    replace HV := Lib.hid (show (insB a.p 0 (if a.k = 6 then 10000 else 1000000) && tailT a) = V by rw [← HV.out, HW.out]; rfl)
    have HP := Lib.hid (show (a.f == 0) = true ∧ (a.t == 1440) = true ∧ (a.d == 7) = true by have := HW.out; unfold wholeB at this; simpa using this)
    have g1 : (a.f != 0) = false := by unfold bne; rw [HP.out.1]; rfl
    have g2 : (a.t != 1440) = false := by unfold bne; rw [HP.out.2.1]; rfl
    have g3 : (a.d != 7) = false := by unfold bne; rw [HP.out.2.2]; rfl
    have HK34 := Lib.hid (show twoB a.k 3 4 = false by
      have := HWH.out
      unfold twoB at this ⊢
      simp only [Bool.or_eq_true, beq_iff_eq] at this
      rcases this with h | h <;> rw [h] <;> rfl)
    replace HTT := Lib.hid (show tailT a = noneB a by rw [HTT.out, HK34.out]; rfl)
    rw [HTT.out] at HV
    clear HP HW
    by_cases k6 : a.k = 6
    · have d6 : (a.k == 6) = true := by simpa using k6
      replace HV := Lib.hid (show (insB a.p 0 10000 && noneB a) = V by rw [← HV.out, if_pos k6])
      clear k6
      go_upto_region 8 with (fail)
      clear g1 g2 g3 d6
      go_wp2_with fail
      refine (tinside_any _ _ _ W1).mono ?_
      rintro _ _ ⟨rfl, rfl⟩
      obtain ⟨pb, hpb⟩ : ∃ b, insB a.p 0 10000 = b := ⟨_, rfl⟩
      rw [hpb] at HV ⊢
      clear hpb
      cases pb with
      | false =>
        obtain rfl : false = V := by rw [← HV.out]; rfl
        go_wp2
        go_ret
        exact ⟨rfl, HB.out⟩
      | true =>
      replace HV := Lib.hid (show noneB a = V from HV.out)
      go_wp2_with fail
      refine (tisTime_any a.k W1).mono ?_
      rintro _ _ ⟨rfl, rfl⟩
      rw [HK34.out]
      obtain ⟨c1, h1⟩ : ∃ b, (a.u == 0) = b := ⟨_, rfl⟩
      cases c1 with
      | false =>
        obtain rfl : false = V := by rw [← HV.out]; unfold noneB; rw [h1]; rfl
        go_wp2
        go_ret
        exact ⟨rfl, HB.out⟩
      | true =>
        obtain rfl : (a.r == 0) = V := by rw [← HV.out]; unfold noneB; rw [h1]; rfl
        go_wp2
        go_ret
        exact ⟨rfl, HB.out⟩
    · have d6 : (a.k == 6) = false := by simpa using k6
      replace HV := Lib.hid (show (insB a.p 0 1000000 && noneB a) = V by rw [← HV.out, if_neg k6])
      clear k6
      go_upto_region 8 with (fail)
      clear g1 g2 g3 d6
      go_wp2_with fail
      refine (tinside_any _ _ _ W1).mono ?_
      rintro _ _ ⟨rfl, rfl⟩
      obtain ⟨pb, hpb⟩ : ∃ b, insB a.p 0 1000000 = b := ⟨_, rfl⟩
      rw [hpb] at HV ⊢
      clear hpb
      cases pb with
      | false =>
        obtain rfl : false = V := by rw [← HV.out]; rfl
        go_wp2
        go_ret
        exact ⟨rfl, HB.out⟩
      | true =>
      replace HV := Lib.hid (show noneB a = V from HV.out)
      go_wp2_with fail
      refine (tisTime_any a.k W1).mono ?_
      rintro _ _ ⟨rfl, rfl⟩
      rw [HK34.out]
      obtain ⟨c1, h1⟩ : ∃ b, (a.u == 0) = b := ⟨_, rfl⟩
      cases c1 with
      | false =>
        obtain rfl : false = V := by rw [← HV.out]; unfold noneB; rw [h1]; rfl
        go_wp2
        go_ret
        exact ⟨rfl, HB.out⟩
      | true =>
        obtain rfl : (a.r == 0) = V := by rw [← HV.out]; unfold noneB; rw [h1]; rfl
        go_wp2
        go_ret
        exact ⟨rfl, HB.out⟩
  · clear HMEET
    have HK6 := Lib.hid (show ¬ a.k = 6 by have := HWH.out; unfold twoB at this; intro h; rw [h] at this; simp at this)
    have d6 : (a.k == 6) = false := by simpa using HK6.out
    replace HV := Lib.hid (show (insB a.p 0 1000000 && tailT a) = V by rw [← HV.out, if_neg HK6.out]; rfl)
    go_upto_region 8 with (fail)
    clear d6
    go_wp2_with fail
    refine (tinside_any _ _ _ W1).mono ?_
    rintro _ _ ⟨rfl, rfl⟩
    obtain ⟨pb, hpb⟩ : ∃ b, insB a.p 0 1000000 = b := ⟨_, rfl⟩
    rw [hpb] at HV ⊢
    clear hpb
    cases pb with
    | false =>
      obtain rfl : false = V := by rw [← HV.out]; rfl
      go_wp2
      go_ret
      exact ⟨rfl, HB.out⟩
    | true =>
    replace HV := Lib.hid (show tailT a = V from HV.out)
    obtain ⟨tm, htm⟩ : ∃ b, twoB a.k 3 4 = b := ⟨_, rfl⟩
    have HTM := Lib.hid htm
    clear htm
    go_wp2_with fail
    refine (tisTime_any a.k W1).mono ?_
    rintro _ _ ⟨rfl, rfl⟩
    rw [HTM.out] at HTT ⊢
    cases tm with
    | true =>
      replace HV := Lib.hid (show (insB a.u 1 1440 && insB a.r 0 1440) = V by rw [← HV.out, HTT.out]; rfl)
      go_wp2_with fail
      refine (tinside_any _ _ _ W1).mono ?_
      rintro _ _ ⟨rfl, rfl⟩
      obtain ⟨ub, hub⟩ : ∃ b, insB a.u 1 1440 = b := ⟨_, rfl⟩
      rw [hub] at HV ⊢
      clear hub
      cases ub with
      | false =>
        obtain rfl : false = V := by rw [← HV.out]; rfl
        go_wp2
        go_ret
        exact ⟨rfl, HB.out⟩
      | true =>
      go_wp2_with fail
      refine (tinside_any _ _ _ W1).mono ?_
      rintro _ _ ⟨rfl, rfl⟩
      rw [show insB a.r 0 1440 = V from HV.out]
      go_wp2
      go_ret
      exact ⟨rfl, HB.out⟩
    | false =>
      replace HV := Lib.hid (show noneB a = V by rw [← HV.out, HTT.out]; rfl)
      obtain ⟨c1, h1⟩ : ∃ b, (a.u == 0) = b := ⟨_, rfl⟩
      cases c1 with
      | false =>
        obtain rfl : false = V := by rw [← HV.out]; unfold noneB; rw [h1]; rfl
        go_wp2
        go_ret
        exact ⟨rfl, HB.out⟩
      | true =>
        obtain rfl : (a.r == 0) = V := by rw [← HV.out]; unfold noneB; rw [h1]; rfl
        go_wp2
        go_ret
        exact ⟨rfl, HB.out⟩
end Go.Proofs.YtkfmmiekajgdjaaGreat