/- Package settle: Net of one record. -/
import Derived.Test.YtkfmmiekajgdjaaGreatNe43
import Derived.Test.YtkfmmiekajgdjaaGreatT41
import Derived.Test.YtkfmmiekajgdjaaGreatMk43
import Derived.Carry
namespace Go.Proofs.YtkfmmiekajgdjaaGreat
open Go.RowKit
attribute [local go_sem] Oper.semAt_some

theorem net_lt {n : Int} (h : 0 ≤ n ∧ n ≤ 7) : n.toNat < 8 := by omega
theorem net_cast {n : Int} (h : 0 ≤ n ∧ n ≤ 7) : ((n.toNat : Nat) : Int) = n := by omega
theorem net_zero : ∀ i, i < 8 → -1000000000000 ≤ (List.replicate 8 (0 : Int)).getD i 0 ∧ (List.replicate 8 (0 : Int)).getD i 0 ≤ 1000000000000 := fun i hi => by
  rcases (by omega : i = 0 ∨ i = 1 ∨ i = 2 ∨ i = 3 ∨ i = 4 ∨ i = 5 ∨ i = 6 ∨ i = 7) with rfl | rfl | rfl | rfl | rfl | rfl | rfl | rfl <;> decide
set_option maxRecDepth 100000 in
set_option maxHeartbeats 8000000 in
theorem Net_one (g : Nat) (r : Rc) (w : World) (h : Blk w g 62 #[.int .i64 r.se, .int .i64 r.ch, .int .i64 r.ca, .int .i64 r.ho, .int .i64 r.hs, .int .i64 r.fi, .int .i64 r.la, .int .i64 r.en, .int .i64 r.am, .int .u64 (r.g0 : Nat), .int .u64 (r.g1 : Nat), .int .u64 (r.g2 : Nat), .int .u64 (r.g3 : Nat)]) (hv : validC r = true) : Calls Tryz.prog 16 #[.slice (some ⟨g, 0, none⟩) 1 1, .int .i64 8] w (fun e w' => Below w.heap.size w w' ∧ ∃ V, e = .returned (.tuple #[.slice (some ⟨V, 0, none⟩) 8 8, .int .i64 0]) ∧ Blk w' V 3 (intsC (addAt (addAt (List.replicate 8 0) r.hs.toNat r.am) r.ho.toNat (-r.am)))) := by
  have HG := Lib.hid h
  have HV := Lib.hid (show (0 ≤ r.ho ∧ r.ho ≤ 7) ∧ (0 ≤ r.hs ∧ r.hs ≤ 7) ∧ (0 ≤ r.am ∧ r.am ≤ 1000000000) by
    unfold validC at hv
    simp only [decide_eq_true_eq] at hv
    omega)
  clear h hv
  go_enter Tryz.func16, Tryz.ntmps16
  go_wp2_with fail
  go_loopw [24] (fun i wr => ∃ k : Nat, k ≤ 1 ∧ i = .int .i64 k ∧ Below w.heap.size w wr) (fun i _ => 1 - (intOf i).toNat)
  case atStart => exact ⟨0, by decide, rfl, Below.refl _ _⟩
  case round =>
    obtain ⟨k, hk, rfl, hb⟩ := hrel
    obtain ⟨wA, rfl⟩ : ∃ wA : World, wA = wr := ⟨_, rfl⟩
    have HB := Lib.hid hb
    clear hb
    by_cases hlt : k < 1
    · obtain rfl : k = 0 := by omega
      have HGA := Lib.hid (HG.out.later HB.out)
      have q0 : wA.cell? ⟨g, 0, none⟩ = some (.int .i64 r.se) := HGA.out.cell 0
      have q1 : wA.cell? ⟨g, 1, none⟩ = some (.int .i64 r.ch) := HGA.out.cell 1
      have q2 : wA.cell? ⟨g, 2, none⟩ = some (.int .i64 r.ca) := HGA.out.cell 2
      have q3 : wA.cell? ⟨g, 3, none⟩ = some (.int .i64 r.ho) := HGA.out.cell 3
      have q4 : wA.cell? ⟨g, 4, none⟩ = some (.int .i64 r.hs) := HGA.out.cell 4
      have q5 : wA.cell? ⟨g, 5, none⟩ = some (.int .i64 r.fi) := HGA.out.cell 5
      have q6 : wA.cell? ⟨g, 6, none⟩ = some (.int .i64 r.la) := HGA.out.cell 6
      have q7 : wA.cell? ⟨g, 7, none⟩ = some (.int .i64 r.en) := HGA.out.cell 7
      have q8 : wA.cell? ⟨g, 8, none⟩ = some (.int .i64 r.am) := HGA.out.cell 8
      have q9 : wA.cell? ⟨g, 9, none⟩ = some (.int .u64 (r.g0 : Nat)) := HGA.out.cell 9
      have q10 : wA.cell? ⟨g, 10, none⟩ = some (.int .u64 (r.g1 : Nat)) := HGA.out.cell 10
      have q11 : wA.cell? ⟨g, 11, none⟩ = some (.int .u64 (r.g2 : Nat)) := HGA.out.cell 11
      have q12 : wA.cell? ⟨g, 12, none⟩ = some (.int .u64 (r.g3 : Nat)) := HGA.out.cell 12
      go_upto_region 8 with (fail)
      obtain ⟨W1, hW1⟩ : ∃ W, W = wA.alloc (.cells #[.int .i64 r.se, .int .i64 r.ch, .int .i64 r.ca, .int .i64 r.ho, .int .i64 r.hs, .int .i64 r.fi, .int .i64 r.la, .int .i64 r.en, .int .i64 r.am, .int .u64 (r.g0 : Nat), .int .u64 (r.g1 : Nat), .int .u64 (r.g2 : Nat), .int .u64 (r.g3 : Nat)] 62) := ⟨_, rfl⟩
      have HQ := Lib.hid (show Blk W1 wA.heap.size 62 #[.int .i64 r.se, .int .i64 r.ch, .int .i64 r.ca, .int .i64 r.ho, .int .i64 r.hs, .int .i64 r.fi, .int .i64 r.la, .int .i64 r.en, .int .i64 r.am, .int .u64 (r.g0 : Nat), .int .u64 (r.g1 : Nat), .int .u64 (r.g2 : Nat), .int .u64 (r.g3 : Nat)] by rw [hW1]; exact Blk.new _ _ _)
      have HB1 := Lib.hid (show Below w.heap.size w W1 by rw [hW1]; exact below_alloc HB.out _)
      rw [← hW1]
      clear hW1 q0 q1 q2 q3 q4 q5 q6 q7 q8 q9 q10 q11 q12
      have q0 : W1.cell? ⟨wA.heap.size, 0, none⟩ = some (.int .i64 r.se) := HQ.out.cell 0
      have q1 : W1.cell? ⟨wA.heap.size, 1, none⟩ = some (.int .i64 r.ch) := HQ.out.cell 1
      have q2 : W1.cell? ⟨wA.heap.size, 2, none⟩ = some (.int .i64 r.ca) := HQ.out.cell 2
      have q3 : W1.cell? ⟨wA.heap.size, 3, none⟩ = some (.int .i64 r.ho) := HQ.out.cell 3
      have q4 : W1.cell? ⟨wA.heap.size, 4, none⟩ = some (.int .i64 r.hs) := HQ.out.cell 4
      have q5 : W1.cell? ⟨wA.heap.size, 5, none⟩ = some (.int .i64 r.fi) := HQ.out.cell 5
      have q6 : W1.cell? ⟨wA.heap.size, 6, none⟩ = some (.int .i64 r.la) := HQ.out.cell 6
      have q7 : W1.cell? ⟨wA.heap.size, 7, none⟩ = some (.int .i64 r.en) := HQ.out.cell 7
      have q8 : W1.cell? ⟨wA.heap.size, 8, none⟩ = some (.int .i64 r.am) := HQ.out.cell 8
      have q9 : W1.cell? ⟨wA.heap.size, 9, none⟩ = some (.int .u64 (r.g0 : Nat)) := HQ.out.cell 9
      have q10 : W1.cell? ⟨wA.heap.size, 10, none⟩ = some (.int .u64 (r.g1 : Nat)) := HQ.out.cell 10
      have q11 : W1.cell? ⟨wA.heap.size, 11, none⟩ = some (.int .u64 (r.g2 : Nat)) := HQ.out.cell 11
      have q12 : W1.cell? ⟨wA.heap.size, 12, none⟩ = some (.int .u64 (r.g3 : Nat)) := HQ.out.cell 12
      have a1 := HV.out.1
      have a2 := HV.out.2.1
      have a3 := HV.out.2.2
      have b1 : (decide (0 ≤ r.ho) && decide (r.ho < 8)) = true := by simp; omega
      have b2 : (decide (0 ≤ r.hs) && decide (r.hs < 8)) = true := by simp; omega
      have b3 : decide (r.am < 0) = false := decide_eq_false (by omega)
      have b4 : decide (1000000000 < r.am) = false := decide_eq_false (by omega)
      have C1 := Lib.hid (isNetwork_any r.ho 8 W1)
      have C2 := Lib.hid (isNetwork_any r.hs 8 W1)
      rw [b1] at C1
      rw [b2] at C2
      clear a1 a2 a3 b1 b2
      go_wp2_with fail
      refine C1.out.mono ?_
      rintro _ _ ⟨rfl, rfl⟩
      go_wp2_with fail
      refine C2.out.mono ?_
      rintro _ _ ⟨rfl, rfl⟩
      go_wp2
      go_roundw
      case rel => exact ⟨1, by decide, by go_num, HB1.out⟩
      case measure => simp [intOf]
    · obtain rfl : k = 1 := by omega
      have hmk : ∀ w', (Instr.makeSlice 26 (.int .i64 8) (.int .i64 8)).run Tryz.prog w' = .ok (.slice (some ⟨w'.heap.size, 0, none⟩) 8 8) (w'.alloc (.cells #[.int .i64 0, .int .i64 0, .int .i64 0, .int .i64 0, .int .i64 0, .int .i64 0, .int .i64 0, .int .i64 0] 3)) := fun _ => by kernel_rfl
      have hmm := @run_makeMap Tryz.prog
      go_upto_region 13 with (fail)
      clear hmk hmm
      obtain ⟨wb, hwb⟩ : ∃ W, W = wA.alloc (.cells #[.int .i64 0, .int .i64 0, .int .i64 0, .int .i64 0, .int .i64 0, .int .i64 0, .int .i64 0, .int .i64 0] 3) := ⟨_, rfl⟩
      obtain ⟨wd, hwd⟩ : ∃ W, W = wb.alloc (.cells #[.slice (some ⟨wA.heap.size, 0, none⟩) 8 8] 95) := ⟨_, rfl⟩
      obtain ⟨W1, hW1⟩ : ∃ W, W = wd.alloc (.map #[] 0) := ⟨_, rfl⟩
      have hsb : wb.heap.size = wA.heap.size + 1 := by rw [hwb, World.size_alloc]
      have hsd : wd.heap.size = wA.heap.size + 1 + 1 := by rw [hwd, World.size_alloc, hsb]
      have HVB := Lib.hid (show Blk W1 wA.heap.size 3 (intsC (List.replicate 8 0)) by rw [hW1, hwd]; refine Blk.alloc (Blk.alloc ?_ _) _; rw [hwb]; exact Blk.new _ _ _)
      have HBB := Lib.hid (show Blk W1 (wA.heap.size + 1) 95 #[.slice (some ⟨wA.heap.size, 0, none⟩) 8 8] by rw [hW1]; refine Blk.alloc ?_ _; rw [hwd, ← hsb]; exact Blk.new _ _ _)
      have HMB := Lib.hid (show W1.heap[wA.heap.size + 1 + 1]? = some (.map #[] 0) by rw [hW1, ← hsd]; exact World.alloc_heap_new _ _)
      have HB1 := Lib.hid (show Below w.heap.size w W1 by rw [hW1, hwd, hwb]; exact below_alloc (below_alloc (below_alloc HB.out _) _) _)
      have hS : W1 = ((wA.alloc (.cells #[.int .i64 0, .int .i64 0, .int .i64 0, .int .i64 0, .int .i64 0, .int .i64 0, .int .i64 0, .int .i64 0] 3)).alloc (.cells #[.slice (some ⟨wA.heap.size, 0, none⟩) 8 8] 95)).alloc (.map #[] 0) := by rw [hW1, hwd, hwb]
      rw [← hS]
      have HLE := Lib.hid (show w.heap.size ≤ wA.heap.size from HB.out.size)
      clear hS hW1 hwd hwb hsb hsd
      obtain ⟨V, hV⟩ : ∃ V, wA.heap.size = V := ⟨_, rfl⟩
      rw [hV] at HVB HBB HMB HLE ⊢
      clear hV HB
      go_wp2_with fail
      go_loopw [58] (fun i wr => ∃ k : Nat, k ≤ 1 ∧ i = .int .i64 k ∧ Below w.heap.size w wr ∧ Blk wr (V + 1) 95 #[.slice (some ⟨V, 0, none⟩) 8 8] ∧ (k = 0 → Blk wr V 3 (intsC (List.replicate 8 0)) ∧ wr.heap[V + 1 + 1]? = some (.map #[] 0)) ∧ (k = 1 → Blk wr V 3 (intsC (addAt (addAt (List.replicate 8 0) r.hs.toNat r.am) r.ho.toNat (-r.am))))) (fun i _ => 1 - (intOf i).toNat)
      case atStart => exact ⟨0, by decide, rfl, HB1.out, HBB.out, fun _ => ⟨HVB.out, HMB.out⟩, fun h => by cases h⟩
      case round =>
        clear HVB HBB HMB HB1
        obtain ⟨k, hk, rfl, hb, hbb, h0, h1⟩ := hrel
        obtain ⟨wC, rfl⟩ : ∃ wC : World, wC = wr := ⟨_, rfl⟩
        have HB := Lib.hid hb
        have HBB := Lib.hid hbb
        clear hb hbb
        by_cases hlt : k < 1
        · obtain rfl : k = 0 := by omega
          have HVB := Lib.hid (h0 rfl).1
          have HMB := Lib.hid (h0 rfl).2
          clear h0 h1
          have HGA := Lib.hid (HG.out.later HB.out)
          have q0 : wC.cell? ⟨g, 0, none⟩ = some (.int .i64 r.se) := HGA.out.cell 0
          have q1 : wC.cell? ⟨g, 1, none⟩ = some (.int .i64 r.ch) := HGA.out.cell 1
          have q2 : wC.cell? ⟨g, 2, none⟩ = some (.int .i64 r.ca) := HGA.out.cell 2
          have q3 : wC.cell? ⟨g, 3, none⟩ = some (.int .i64 r.ho) := HGA.out.cell 3
          have q4 : wC.cell? ⟨g, 4, none⟩ = some (.int .i64 r.hs) := HGA.out.cell 4
          have q5 : wC.cell? ⟨g, 5, none⟩ = some (.int .i64 r.fi) := HGA.out.cell 5
          have q6 : wC.cell? ⟨g, 6, none⟩ = some (.int .i64 r.la) := HGA.out.cell 6
          have q7 : wC.cell? ⟨g, 7, none⟩ = some (.int .i64 r.en) := HGA.out.cell 7
          have q8 : wC.cell? ⟨g, 8, none⟩ = some (.int .i64 r.am) := HGA.out.cell 8
          have q9 : wC.cell? ⟨g, 9, none⟩ = some (.int .u64 (r.g0 : Nat)) := HGA.out.cell 9
          have q10 : wC.cell? ⟨g, 10, none⟩ = some (.int .u64 (r.g1 : Nat)) := HGA.out.cell 10
          have q11 : wC.cell? ⟨g, 11, none⟩ = some (.int .u64 (r.g2 : Nat)) := HGA.out.cell 11
          have q12 : wC.cell? ⟨g, 12, none⟩ = some (.int .u64 (r.g3 : Nat)) := HGA.out.cell 12
          go_upto_region 16 with (fail)
          obtain ⟨W2, hW2⟩ : ∃ W, W = wC.alloc (.cells #[.int .i64 r.se, .int .i64 r.ch, .int .i64 r.ca, .int .i64 r.ho, .int .i64 r.hs, .int .i64 r.fi, .int .i64 r.la, .int .i64 r.en, .int .i64 r.am, .int .u64 (r.g0 : Nat), .int .u64 (r.g1 : Nat), .int .u64 (r.g2 : Nat), .int .u64 (r.g3 : Nat)] 62) := ⟨_, rfl⟩
          have HQ := Lib.hid (show Blk W2 wC.heap.size 62 #[.int .i64 r.se, .int .i64 r.ch, .int .i64 r.ca, .int .i64 r.ho, .int .i64 r.hs, .int .i64 r.fi, .int .i64 r.la, .int .i64 r.en, .int .i64 r.am, .int .u64 (r.g0 : Nat), .int .u64 (r.g1 : Nat), .int .u64 (r.g2 : Nat), .int .u64 (r.g3 : Nat)] by rw [hW2]; exact Blk.new _ _ _)
          have HB2 := Lib.hid (show Below wC.heap.size wC W2 by rw [hW2]; exact below_alloc (Below.refl _ _) _)
          rw [← hW2]
          clear hW2 q0 q1 q2 q3 q4 q5 q6 q7 q8 q9 q10 q11 q12
          have q0 : W2.cell? ⟨wC.heap.size, 0, none⟩ = some (.int .i64 r.se) := HQ.out.cell 0
          have q4 : W2.cell? ⟨wC.heap.size, 4, none⟩ = some (.int .i64 r.hs) := HQ.out.cell 4
          go_upto_region 17 with (fail)
          obtain ⟨W3, hW3⟩ : ∃ W, W = W2.alloc (.cells #[.int .i64 r.hs, .int .i64 r.se] 98) := ⟨_, rfl⟩
          have HK := Lib.hid (show Blk W3 W2.heap.size 98 #[.int .i64 r.hs, .int .i64 r.se] by rw [hW3]; exact Blk.new _ _ _)
          have HB23 := Lib.hid (show Below W2.heap.size W2 W3 by rw [hW3]; exact below_alloc (Below.refl _ _) _)
          have HB3 := Lib.hid (below_step HB2.out HB23.out)
          rw [← hW3]
          clear hW3 q0 q4
          have q0 : W3.cell? ⟨W2.heap.size, 0, none⟩ = some (.int .i64 r.hs) := HK.out.cell 0
          have q4 : W3.cell? ⟨W2.heap.size, 1, none⟩ = some (.int .i64 r.se) := HK.out.cell 1
          have hm3 : W3.heap[V + 1 + 1]? = some (.map #[] 0) := (HB3.out.block _ (Array.getElem?_eq_some_iff.1 HMB.out).1).trans HMB.out
          have hlk := look_empty (V + 1 + 1) r.hs r.se W3 hm3
          obtain ⟨oM, hpt⟩ := put_empty (V + 1 + 1) r.hs r.se W3 hm3
          clear hm3
          go_upto_region 20 with (fail)
          obtain ⟨W4, hW4⟩ : ∃ W, W = ({ W3 with heap := W3.heap.setIfInBounds (V + 1 + 1) oM } : World) := ⟨_, rfl⟩
          have HA4 := Lib.hid (show Agr W3 W4 [V + 1 + 1] by rw [hW4]; exact set_agr)
          rw [← hW4]
          clear hW4 hlk hpt q0 q4
          have HCW := Lib.hid (show V + 1 + 1 < wC.heap.size from (Array.getElem?_eq_some_iff.1 HMB.out).1)
          have HQ4 := Lib.hid (HA4.out.blk (HQ.out.later HB23.out) (fun hm => by have := List.mem_singleton.1 hm; have := HCW.out; omega))
          have HV4 := Lib.hid (HA4.out.blk (HVB.out.later HB3.out) (fun hm => by have := List.mem_singleton.1 hm; omega))
          have HBB4 := Lib.hid (HA4.out.blk (HBB.out.later HB3.out) (fun hm => by have := List.mem_singleton.1 hm; omega))
          have HMV := Lib.hid (move_any (V + 1) V 8 (List.replicate 8 0) r.hs.toNat r.ho.toNat r.am W4 HBB4.out HV4.out (Nat.ne_of_gt (Nat.lt_succ_self V)) (by simp) (Nat.le_refl 8) (net_lt HV.out.2.1) (net_lt HV.out.1) HV.out.2.2.1 HV.out.2.2.2 net_zero)
          rw [net_cast HV.out.2.1, net_cast HV.out.1] at HMV
          have q3 : W4.cell? ⟨wC.heap.size, 3, none⟩ = some (.int .i64 r.ho) := HQ4.out.cell 3
          have q4 : W4.cell? ⟨wC.heap.size, 4, none⟩ = some (.int .i64 r.hs) := HQ4.out.cell 4
          have q8 : W4.cell? ⟨wC.heap.size, 8, none⟩ = some (.int .i64 r.am) := HQ4.out.cell 8
          have HB4 := Lib.hid (HA4.out.below (below_step HB.out HB3.out) (fun b hb => by have := List.mem_singleton.1 hb; have := HLE.out; omega))
          go_wp2_with fail
          refine HMV.out.mono ?_
          rintro _ W5 ⟨rfl, ha5, hv5⟩
          have HBB5 := Lib.hid (ha5.blk HBB4.out (fun hm => by have := List.mem_singleton.1 hm; omega))
          have HB5 := Lib.hid (ha5.below HB4.out (fun b hb => by have := List.mem_singleton.1 hb; have := HLE.out; omega))
          have HV5 := Lib.hid hv5
          clear ha5 hv5 q3 q4 q8 HMV
          go_wp2
          go_roundw
          case rel => first | exact ⟨1, by decide, by go_num, HB5.out, HBB5.out, fun h => (by cases h), fun _ => HV5.out⟩ | ((repeat apply Exists.intro); exact ⟨⟨1, by decide, by go_num, HB5.out, HBB5.out, fun h => (by cases h), fun _ => HV5.out⟩, rfl⟩)
          case measure => simp [intOf]
        · obtain rfl : k = 1 := by omega
          have HRS := Lib.hid (h1 rfl)
          clear h0 h1
          have c0 : wC.cell? ⟨V + 1, 0, none⟩ = some (.slice (some ⟨V, 0, none⟩) 8 8) := HBB.out.cell 0
          go_wp2_with fail
          first
            | (go_ret2; exact ⟨HB.out, V, rfl, HRS.out⟩)
            | trace_state
end Go.Proofs.YtkfmmiekajgdjaaGreat
