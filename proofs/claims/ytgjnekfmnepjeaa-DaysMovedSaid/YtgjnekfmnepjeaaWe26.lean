/- Chapter 26: Valid of the reference. -/
import Derived.Test.YtgjnekfmnepjeaaWd26
namespace Go.Proofs.Ytgjnekfmnepjeaa
open Go.RowKit

theorem mixed : Try.prog.follows .mixedOrders = true := by kernel_rfl


set_option maxHeartbeats 2000000 in
theorem refValid_any (o : Int) (oc oh : Option Addr) (kc kh : Nat) (cs : List (Int × Int)) (hs : List Int) (w : World) (hc : Twos w oc cs) (hh : Ints w oh hs) :
    Calls Try.prog 17 #[calV o oc cs.length kc oh hs.length kh] w (Ret (.bool (validCal o cs hs)) w) := by
  obtain ⟨r, hr⟩ : ∃ r, validCal o cs hs = r := ⟨_, rfl⟩
  rw [hr]
  have HR := Lib.hid hr
  have HC := Lib.hid hc
  have HH := Lib.hid hh
  clear hr hc hh
  obtain ⟨q, hq⟩ : ∃ q, inBand o (-1440) 1440 = q := ⟨_, rfl⟩
  have hins : ∀ w', Calls Try.prog 33 #[.int .i64 o] w' fun e w'' => e = .returned (.bool q) ∧ w'' = w' := fun w' => by
    rw [← hq]; exact refOffset_any o w'
  have HI := Lib.hid hins
  have HQ := Lib.hid hq
  clear hins hq
  go_enter Try.func17, Try.ntmps17
  go_wp2_with fail
  refine (HI.out _).mono ?_
  rintro e w1 ⟨rfl, rfl⟩
  cases q with
  | false =>
    go_wp2
    go_ret
    obtain rfl : r = false := HR.out.symm.trans (valid_o HQ.out)
    exact ⟨rfl, below_alloc (Below.refl _ _) _⟩
  | true =>
    by_cases l1 : cs.length ≤ 16
    case neg =>
      have l1' : (16 : Int) < cs.length := by omega
      go_wp2
      go_ret
      obtain rfl : r = false := HR.out.symm.trans (valid_c l1)
      exact ⟨rfl, below_alloc (Below.refl _ _) _⟩
    have l1i : (cs.length : Int) ≤ 16 := by omega
    by_cases l2 : hs.length ≤ 32
    case neg =>
      have l2' : (32 : Int) < hs.length := by omega
      go_wp2
      go_ret
      obtain rfl : r = false := HR.out.symm.trans (valid_h l2)
      exact ⟨rfl, below_alloc (Below.refl _ _) _⟩
    have l2i : (hs.length : Int) ≤ 32 := by omega
    have l1b : decide ((16 : Int) < cs.length) = false := by simpa using l1i
    have l2b : decide ((32 : Int) < hs.length) = false := by simpa using l2i
    go_wp2
    clear l1b l2b
    go_loopw [3] (fun i wr => ∃ (k : Nat) (b : Int), k ≤ cs.length ∧ i = .int .i64 k ∧ offs cs k ∧ restIncr 52560000 b (cs.map (·.1)) k ∧ -1 ≤ b ∧ (k = 0 → b = -1) ∧ (0 < k → (cs.getD (k - 1) (0, 0)).1 = b) ∧ Box3 w wr (.int .i64 o) (.slice oc cs.length kc) (.slice oh hs.length kh)) (fun i _ => cs.length - (intOf i).toNat)
    case atStart => exact ⟨0, -1, Nat.zero_le _, rfl, offs_zero _, restIncr_zero _ _, by omega, fun _ => rfl, fun h => absurd h (by omega), Box3.new ..⟩
    case round =>
      obtain ⟨k, b, hk, rfl, ho, hi, hb1, hb0, hbk, hx⟩ := hrel
      have HO := Lib.hid ho
      have HN := Lib.hid hi
      have HX := Lib.hid hx
      have HB0 := Lib.hid hb0
      have HBK := Lib.hid hbk
      clear ho hx hi hb0 hbk
      have c1 := HX.out.c1
      by_cases hlt : k < cs.length
      · obtain ⟨g, off, hg, h1, h2⟩ := (HC.out.later HX.out.below) k hlt
        subst hg
        obtain ⟨x, hx⟩ : ∃ x, (cs.getD k (0, 0)).1 = x := ⟨_, rfl⟩
        obtain ⟨y, hy⟩ : ∃ y, (cs.getD k (0, 0)).2 = y := ⟨_, rfl⟩
        rw [hx] at h1
        rw [hy] at h2
        have HY := Lib.hid hy
        have HKX := Lib.hid ((getD_map cs (·.1) k hlt (0, 0) 0).trans hx)
        have HKL := Lib.hid (show k < (cs.map (·.1)).length by simpa using hlt)
        obtain ⟨p, hp⟩ : ∃ p, inBand y (-1440) 1440 = p := ⟨_, rfl⟩
        have HP := Lib.hid hp
        have HX1 := Lib.hid hx
        clear hx hy hp
        go_wp2_with fail
        clear h1 h2 c1
        obtain ⟨W, hW⟩ : ∃ W : World, W = wr.alloc (.cells #[.int .i64 x, .int .i64 y] 37) := ⟨_, rfl⟩
        rw [← hW]
        have HXW := Lib.hid (show Box3 w W (.int .i64 o) (.slice (some ⟨g, off, none⟩) cs.length kc) (.slice oh hs.length kh) by rw [hW]; exact HX.out.alloc _)
        have HXN := Lib.hid (show W.cell? ⟨wr.heap.size, 0, none⟩ = some (.int .i64 x) ∧ W.cell? ⟨wr.heap.size, 1, none⟩ = some (.int .i64 y) by rw [hW]; exact two_new (Below.refl _ _))
        clear hW
        have d0 : ∀ w', Below W.heap.size W w' → w'.cell? ⟨wr.heap.size, 0, none⟩ = some (.int .i64 x) := fun w' h => cell_kept h HXN.out.1
        have d1 : ∀ w', Below W.heap.size W w' → w'.cell? ⟨wr.heap.size, 1, none⟩ = some (.int .i64 y) := fun w' h => cell_kept h HXN.out.2
        have d2 : ∀ w', Below W.heap.size W w' → w'.cell? ⟨w.heap.size, 1, none⟩ = some (.slice (some ⟨g, off, none⟩) cs.length kc) := fun w' h => cell_kept h HXW.out.c1
        cases p with
        | false =>
          refine wp_region_inv 30 (fun w' => Below W.heap.size W w') mixed (by kernel_rfl) (Below.refl _ _).drew ?_
          simp only [List.take_succ_cons, List.drop_succ_cons, List.drop_nil, List.take_nil]
          intro R hR
          have HRR := Lib.hid hR
          clear hR
          repeat (first
            | ((with_reducible refine wpInv_move ?_ ?_); exact rfl; simp only [Act.put, List.setIfInBounds_toArray, List.set_cons_zero, List.set_cons_succ])
            | ((with_reducible refine wpInv_skip ?_ ?_); exact rfl; simp only [Act.put, List.setIfInBounds_toArray, List.set_cons_zero, List.set_cons_succ])
            | (apply wpInv_call 33 #[.int .i64 y] rfl (v := .bool false)
               · (intro w'; go_simp)
               · exact fun w' hw' => (refOffset_any y w').mono fun e w'' hh => ⟨by rw [hh.1, HP.out], by rw [hh.2]; exact hw'⟩
               simp only [Act.put, List.setIfInBounds_toArray, List.set_cons_zero, List.set_cons_succ])
            | (apply wpInv_val rfl
               · (intro w' hw'; go_simp; with_reducible rfl)
               simp only [Act.put, List.setIfInBounds_toArray, List.set_cons_zero, List.set_cons_succ]))
          refine wpInv_nil (HRR.out _ (fun w3 hw3 => ?_))
          have HW3 := Lib.hid (HXW.out.later hw3)
          clear hw3
          go_wp2
          go_ret
          obtain rfl : r = false := HR.out.symm.trans (valid_a (offs_bad HO.out hlt HY.out HP.out))
          exact ⟨rfl, HW3.out.below⟩
        | true =>
          by_cases t1 : x < 0
          · skip
            refine wp_region_inv 30 (fun w' => Below W.heap.size W w') mixed (by kernel_rfl) (Below.refl _ _).drew ?_
            simp only [List.take_succ_cons, List.drop_succ_cons, List.drop_nil, List.take_nil]
            intro R hR
            have HRR := Lib.hid hR
            clear hR
            repeat (first
              | ((with_reducible refine wpInv_move ?_ ?_); exact rfl; simp only [Act.put, List.setIfInBounds_toArray, List.set_cons_zero, List.set_cons_succ])
              | ((with_reducible refine wpInv_skip ?_ ?_); exact rfl; simp only [Act.put, List.setIfInBounds_toArray, List.set_cons_zero, List.set_cons_succ])
              | (apply wpInv_call 33 #[.int .i64 y] rfl (v := .bool true)
                 · (intro w'; go_simp)
                 · exact fun w' hw' => (refOffset_any y w').mono fun e w'' hh => ⟨by rw [hh.1, HP.out], by rw [hh.2]; exact hw'⟩
                 simp only [Act.put, List.setIfInBounds_toArray, List.set_cons_zero, List.set_cons_succ])
              | (apply wpInv_val rfl
                 · (intro w' hw'; go_simp; with_reducible rfl)
                 simp only [Act.put, List.setIfInBounds_toArray, List.set_cons_zero, List.set_cons_succ]))
            refine wpInv_nil (HRR.out _ (fun w3 hw3 => ?_))
            have HW3 := Lib.hid (HXW.out.later hw3)
            clear hw3
            go_wp2
            go_ret
            obtain rfl : r = false := HR.out.symm.trans (valid_i (restIncr_bad HN.out HKL.out HKX.out (.inl (by omega))))
            exact ⟨rfl, HW3.out.below⟩
          by_cases t2 : 52560000 < x
          · skip
            refine wp_region_inv 30 (fun w' => Below W.heap.size W w') mixed (by kernel_rfl) (Below.refl _ _).drew ?_
            simp only [List.take_succ_cons, List.drop_succ_cons, List.drop_nil, List.take_nil]
            intro R hR
            have HRR := Lib.hid hR
            clear hR
            repeat (first
              | ((with_reducible refine wpInv_move ?_ ?_); exact rfl; simp only [Act.put, List.setIfInBounds_toArray, List.set_cons_zero, List.set_cons_succ])
              | ((with_reducible refine wpInv_skip ?_ ?_); exact rfl; simp only [Act.put, List.setIfInBounds_toArray, List.set_cons_zero, List.set_cons_succ])
              | (apply wpInv_call 33 #[.int .i64 y] rfl (v := .bool true)
                 · (intro w'; go_simp)
                 · exact fun w' hw' => (refOffset_any y w').mono fun e w'' hh => ⟨by rw [hh.1, HP.out], by rw [hh.2]; exact hw'⟩
                 simp only [Act.put, List.setIfInBounds_toArray, List.set_cons_zero, List.set_cons_succ])
              | (apply wpInv_val rfl
                 · (intro w' hw'; go_simp; with_reducible rfl)
                 simp only [Act.put, List.setIfInBounds_toArray, List.set_cons_zero, List.set_cons_succ]))
            refine wpInv_nil (HRR.out _ (fun w3 hw3 => ?_))
            have HW3 := Lib.hid (HXW.out.later hw3)
            clear hw3
            go_wp2
            go_ret
            obtain rfl : r = false := HR.out.symm.trans (valid_i (restIncr_bad HN.out HKL.out HKX.out (.inr t2)))
            exact ⟨rfl, HW3.out.below⟩
          by_cases t3 : k = 0
          · subst t3
            have t4 := HB0.out rfl
            have HT4 := Lib.hid t4
            clear t4
            refine wp_region_inv 30 (fun w' => Below W.heap.size W w') mixed (by kernel_rfl) (Below.refl _ _).drew ?_
            simp only [List.take_succ_cons, List.drop_succ_cons, List.drop_nil, List.take_nil]
            intro R hR
            have HRR := Lib.hid hR
            clear hR
            repeat (first
              | ((with_reducible refine wpInv_move ?_ ?_); exact rfl; simp only [Act.put, List.setIfInBounds_toArray, List.set_cons_zero, List.set_cons_succ])
              | ((with_reducible refine wpInv_skip ?_ ?_); exact rfl; simp only [Act.put, List.setIfInBounds_toArray, List.set_cons_zero, List.set_cons_succ])
              | (apply wpInv_call 33 #[.int .i64 y] rfl (v := .bool true)
                 · (intro w'; go_simp)
                 · exact fun w' hw' => (refOffset_any y w').mono fun e w'' hh => ⟨by rw [hh.1, HP.out], by rw [hh.2]; exact hw'⟩
                 simp only [Act.put, List.setIfInBounds_toArray, List.set_cons_zero, List.set_cons_succ])
              | (apply wpInv_val rfl
                 · (intro w' hw'; go_simp; with_reducible rfl)
                 simp only [Act.put, List.setIfInBounds_toArray, List.set_cons_zero, List.set_cons_succ]))
            refine wpInv_nil (HRR.out _ (fun w3 hw3 => ?_))
            have HW3 := Lib.hid (HXW.out.later hw3)
            clear hw3
            go_wp2
            go_roundw
            case rel => exact ⟨1, x, by omega, by go_num, offs_step HO.out hlt HY.out HP.out, restIncr_step HN.out HKL.out HKX.out (by have := HT4.out; omega) (by omega), by omega, fun h => absurd h (by omega), fun _ => HX1.out, HW3.out⟩
            case measure => simp [intOf]; omega
          have t3i : (0 : Int) < k := by omega
          have t3n : 0 < k := by omega
          obtain ⟨j, hj⟩ : ∃ j : Nat, k - 1 = j := ⟨_, rfl⟩
          have hjl : j < cs.length := by omega
          obtain ⟨g', off', hg', d3, _⟩ := (HC.out.later HXW.out.below) j hjl
          obtain ⟨rfl, rfl⟩ : g' = g ∧ off' = off := by simpa using hg'.symm
          clear hg'
          rw [← hj, HBK.out (by omega), hj] at d3
          have D3 := Lib.hid d3
          clear d3
          have d3 : ∀ w', Below W.heap.size W w' → w'.cell? ⟨g', off' + j * 2, none⟩ = some (.int .i64 b) := fun w' h => cell_kept h D3.out
          have x1 : IntKind.i64.wrap ((k : Int) - 1) = (j : Int) := (IntWalk.i64_in _ (by omega)).trans (by omega)
          have HJ := Lib.hid hj
          clear hj
          by_cases t5 : x ≤ b
          · skip
            refine wp_region_inv 30 (fun w' => Below W.heap.size W w') mixed (by kernel_rfl) (Below.refl _ _).drew ?_
            simp only [List.take_succ_cons, List.drop_succ_cons, List.drop_nil, List.take_nil]
            intro R hR
            have HRR := Lib.hid hR
            clear hR
            repeat (first
              | ((with_reducible refine wpInv_move ?_ ?_); exact rfl; simp only [Act.put, List.setIfInBounds_toArray, List.set_cons_zero, List.set_cons_succ])
              | ((with_reducible refine wpInv_skip ?_ ?_); exact rfl; simp only [Act.put, List.setIfInBounds_toArray, List.set_cons_zero, List.set_cons_succ])
              | (apply wpInv_call 33 #[.int .i64 y] rfl (v := .bool true)
                 · (intro w'; go_simp)
                 · exact fun w' hw' => (refOffset_any y w').mono fun e w'' hh => ⟨by rw [hh.1, HP.out], by rw [hh.2]; exact hw'⟩
                 simp only [Act.put, List.setIfInBounds_toArray, List.set_cons_zero, List.set_cons_succ])
              | (apply wpInv_val rfl
                 · (intro w' hw'; go_simp; with_reducible rfl)
                 simp only [Act.put, List.setIfInBounds_toArray, List.set_cons_zero, List.set_cons_succ]))
            refine wpInv_nil (HRR.out _ (fun w3 hw3 => ?_))
            have HW3 := Lib.hid (HXW.out.later hw3)
            clear hw3
            go_wp2
            go_ret
            obtain rfl : r = false := HR.out.symm.trans (valid_i (restIncr_bad HN.out HKL.out HKX.out (.inl t5)))
            exact ⟨rfl, HW3.out.below⟩
          · have t6 : b < x := by omega
            refine wp_region_inv 30 (fun w' => Below W.heap.size W w') mixed (by kernel_rfl) (Below.refl _ _).drew ?_
            simp only [List.take_succ_cons, List.drop_succ_cons, List.drop_nil, List.take_nil]
            intro R hR
            have HRR := Lib.hid hR
            clear hR
            repeat (first
              | ((with_reducible refine wpInv_move ?_ ?_); exact rfl; simp only [Act.put, List.setIfInBounds_toArray, List.set_cons_zero, List.set_cons_succ])
              | ((with_reducible refine wpInv_skip ?_ ?_); exact rfl; simp only [Act.put, List.setIfInBounds_toArray, List.set_cons_zero, List.set_cons_succ])
              | (apply wpInv_call 33 #[.int .i64 y] rfl (v := .bool true)
                 · (intro w'; go_simp)
                 · exact fun w' hw' => (refOffset_any y w').mono fun e w'' hh => ⟨by rw [hh.1, HP.out], by rw [hh.2]; exact hw'⟩
                 simp only [Act.put, List.setIfInBounds_toArray, List.set_cons_zero, List.set_cons_succ])
              | (apply wpInv_val rfl
                 · (intro w' hw'; go_simp; with_reducible rfl)
                 simp only [Act.put, List.setIfInBounds_toArray, List.set_cons_zero, List.set_cons_succ]))
            refine wpInv_nil (HRR.out _ (fun w3 hw3 => ?_))
            have HW3 := Lib.hid (HXW.out.later hw3)
            clear hw3
            clear x1 d0 d1 d2 d3
            go_wp2
            go_roundw
            case rel => exact ⟨k + 1, x, by omega, by go_num, offs_step HO.out hlt HY.out HP.out, restIncr_step HN.out HKL.out HKX.out t6 (by omega), by omega, fun h => absurd h (by omega), fun _ => HX1.out, HW3.out⟩
            case measure => simp [intOf]; omega
      · obtain rfl : k = cs.length := by omega
        have HBX := Lib.hid hb1
        clear hb1
        go_wp2
        clear c1
        go_loopw [5] (fun i ws => ∃ (k : Nat) (b : Int), k ≤ hs.length ∧ i = .int .i64 k ∧ restIncr 36500 b hs k ∧ -1 ≤ b ∧ (k = 0 → b = -1) ∧ (0 < k → hs.getD (k - 1) 0 = b) ∧ Box3 w ws (.int .i64 o) (.slice oc cs.length kc) (.slice oh hs.length kh)) (fun i _ => hs.length - (intOf i).toNat)
        case atStart => exact ⟨0, -1, Nat.zero_le _, rfl, restIncr_zero _ _, by omega, fun _ => rfl, fun h => absurd h (by omega), HX.out⟩
        case round =>
          obtain ⟨k, b2, hk, rfl, hi, hb1, hb0, hbk, hx⟩ := hrel
          have HN2 := Lib.hid hi
          have HX2 := Lib.hid hx
          have HB02 := Lib.hid hb0
          have HBK2 := Lib.hid hbk
          clear hx hi hb0 hbk
          have c2 := HX2.out.c2
          by_cases hlt : k < hs.length
          · obtain ⟨g, off, hg, h1⟩ := (HH.out.later HX2.out.below) k hlt
            subst hg
            obtain ⟨x, hx⟩ : ∃ x, hs.getD k 0 = x := ⟨_, rfl⟩
            rw [hx] at h1
            have HKX := Lib.hid hx
            clear hx
            by_cases t1 : x < 0
            · go_wp2
              go_ret
              obtain rfl : r = false := HR.out.symm.trans (valid_j (restIncr_bad HN2.out hlt HKX.out (.inl (by omega))))
              exact ⟨rfl, HX2.out.below⟩
            by_cases t2 : 36500 < x
            · go_wp2
              go_ret
              obtain rfl : r = false := HR.out.symm.trans (valid_j (restIncr_bad HN2.out hlt HKX.out (.inr t2)))
              exact ⟨rfl, HX2.out.below⟩
            by_cases t3 : k = 0
            · subst t3
              have HT4 := Lib.hid (HB02.out rfl)
              rw [Nat.add_zero] at h1
              go_wp2
              go_roundw
              case rel => exact ⟨1, x, by omega, by go_num, restIncr_step HN2.out hlt HKX.out (by have := HT4.out; omega) (by omega), by omega, fun h => absurd h (by omega), fun _ => HKX.out, HX2.out⟩
              case measure => simp [intOf]; omega
            have t3i : (0 : Int) < k := by omega
            have t3n : 0 < k := by omega
            obtain ⟨j, hj⟩ : ∃ j : Nat, k - 1 = j := ⟨_, rfl⟩
            have hjl : j < hs.length := by omega
            obtain ⟨g', off', hg', d3⟩ := (HH.out.later HX2.out.below) j hjl
            obtain ⟨rfl, rfl⟩ : g' = g ∧ off' = off := by simpa using hg'.symm
            clear hg'
            rw [← hj, HBK2.out (by omega), hj] at d3
            have x1 : IntKind.i64.wrap ((k : Int) - 1) = (j : Int) := (IntWalk.i64_in _ (by omega)).trans (by omega)
            have HJ := Lib.hid hj
            clear hj
            by_cases t5 : x ≤ b2
            · go_wp2
              go_ret
              obtain rfl : r = false := HR.out.symm.trans (valid_j (restIncr_bad HN2.out hlt HKX.out (.inl t5)))
              exact ⟨rfl, HX2.out.below⟩
            · have t6 : b2 < x := by omega
              go_wp2
              go_roundw
              case rel => exact ⟨k + 1, x, by omega, by go_num, restIncr_step HN2.out hlt HKX.out t6 (by omega), by omega, fun h => absurd h (by omega), fun _ => HKX.out, HX2.out⟩
              case measure => simp [intOf]; omega
          · obtain rfl : k = hs.length := by omega
            go_wp2
            go_ret
            obtain rfl : r = true := HR.out.symm.trans (valid_mk l1 l2 HQ.out (offs_end HO.out) (restIncr_end (by simpa using HN.out)) (restIncr_end HN2.out))
            exact ⟨rfl, HX2.out.below⟩

end Go.Proofs.Ytgjnekfmnepjeaa
