/- Chapter 40: ChainBeginnings. -/
import Derived.Test.YtckbooccgdddbaaWk40
import Derived.Test.YtckbooccgdddbaaPlainC40
namespace Go.Proofs.Ytckbooccgdddbaa
open Go.RowKit
attribute [local go_sem] Oper.semAt_some

theorem Rds.take {w : World} {o : Option Addr} {l : List Rd} (h : Rds w o l) (n : Nat) : Rds w o (l.take n) := fun i hi => by
  rw [List.length_take] at hi
  obtain ⟨b, off, ho, hx⟩ := h i (by omega)
  refine ⟨b, off, ho, ?_⟩
  have : getR (l.take n) i = getR l i := by
    simp only [getR, List.getD_eq_getElem?_getD, List.getElem?_take_of_lt (show i < n by omega)]
  rw [this]
  exact hx

theorem run_slice_to {o : Option Addr} {n len cap : Nat} (w : World) (h : (n : Int) ≤ (cap : Int)) : (Instr.slice 23 (.slice o len cap) none (some (.int .i64 (n : Nat))) none).run Try.prog w = .ok (.slice o n cap) w := by
  go_simp

set_option maxRecDepth 100000 in
set_option maxHeartbeats 4000000 in
theorem chainBeginnings_any (seed : Nat) (o : Option Addr) (cap : Nat) (l : List Rd) (many : Nat) (w : World) (hs : seed < 18446744073709551616) (hr : Rds w o l) (hl : l.length ≤ 9223372036854775807) (hc : l.length ≤ cap) (hm : many < 256) :
    Calls Try.prog 8 #[.int .u64 (seed : Nat), .slice o l.length cap, .int .u8 (many : Nat)] w (Ret (.bool true) w) := by
  have HR := Lib.hid hr
  have hmod : many % (l.length + 1) ≤ l.length := by have := Nat.mod_lt many (show 0 < l.length + 1 by omega); omega
  obtain ⟨n, hn⟩ : ∃ n, many % (l.length + 1) = n := ⟨_, rfl⟩
  rw [hn] at hmod
  have HN := Lib.hid (show (many : Int) % ((l.length : Int) + 1) = (n : Int) by rw [← hn]; simp)
  clear hr hn
  go_enter Try.func8, Try.ntmps8
  go_wp2_with fail
  refine (head_any w).mono ?_
  rintro e w1 ⟨rfl, hb1⟩
  have HB1 := Lib.hid hb1
  clear hb1
  by_cases h100 : 100 < l.length
  · go_wp2_with fail
    go_ret
    exact ⟨rfl, HB1.out⟩
  have HC1 := Lib.hid (fun (w' : World) (h : Below w1.heap.size w1 w') => Check_any seed o cap l w' hs (HR.out.later (below_step HB1.out h)) hl)
  have HC2 := Lib.hid (fun (w' : World) (h : Below w1.heap.size w1 w') => Check_any seed o cap (l.take n) w' hs ((HR.out.take n).later (below_step HB1.out h)) (by rw [List.length_take]; omega))
  have HT := Lib.hid (show (l.take n).length = n by rw [List.length_take]; omega)
  rw [HT.out] at HC2
  have HIN := Lib.hid (chk_take_in (seed := seed) hmod)
  have HOUT := Lib.hid (chk_take_out (seed := seed) hmod)
  obtain ⟨a, ha⟩ : ∃ a, chk seed l = a := ⟨_, rfl⟩
  obtain ⟨b, hb⟩ : ∃ b, chk seed (l.take n) = b := ⟨_, rfl⟩
  rw [ha] at HC1 HIN HOUT
  rw [hb] at HC2 HIN HOUT
  clear ha hb
  go_wp2_with fail
  rw [HN.out]
  have y1 : (0 : Int) ≤ (n : Int) := by omega
  have y2 : (n : Int) ≤ (cap : Int) := by omega
  have HSL := Lib.hid (fun w' => run_slice_to (o := o) (n := n) (len := l.length) (cap := cap) w' y2)
  refine wp_region_B 10 (fun w'' => Below w1.heap.size w1 w'') mixed (by kernel_rfl) (below_closed w1) (Below.refl _ _).drew ?_
  simp only [List.take_succ_cons, List.take_zero, List.drop_succ_cons, List.drop_zero]
  intro KR hR
  have HR := Lib.hid hR
  clear hR
  repeat (first
    | ((with_reducible refine wpB_move ?_ ?_); exact rfl; simp only [Act.put, List.setIfInBounds_toArray, List.set_cons_zero, List.set_cons_succ])
    | ((with_reducible refine wpB_skip ?_ ?_); exact rfl; simp only [Act.put, List.setIfInBounds_toArray, List.set_cons_zero, List.set_cons_succ])
    | (apply wpB_call 19 #[.int .u64 (seed : Nat), .slice o l.length cap] rfl (v := .int .i64 a)
       · (intro w'; go_simp)
       · exact fun w' hw' => HC1.out w' hw'
       simp only [Act.put, List.setIfInBounds_toArray, List.set_cons_zero, List.set_cons_succ])
    | (apply wpB_call 19 #[.int .u64 (seed : Nat), .slice o n cap] rfl (v := .int .i64 b)
       · (intro w'; go_simp)
       · exact fun w' hw' => HC2.out w' hw'
       simp only [Act.put, List.setIfInBounds_toArray, List.set_cons_zero, List.set_cons_succ])
    | (apply wpB_val rfl
       · (intro w' hw'; have hsl := HSL.out w'; go_simp; with_reducible rfl)
       simp only [Act.put, List.setIfInBounds_toArray, List.set_cons_zero, List.set_cons_succ]))
  refine wpB_nil (HR.out _ (fun w2 hw2 => ?_))
  clear HR
  have HB2 := Lib.hid (below_step HB1.out hw2)
  clear hw2
  by_cases h1 : 0 ≤ a ∧ a < (n : Int)
  · obtain ⟨h1, h2⟩ := h1
    obtain rfl : b = a := HIN.out h1 h2
    go_wp2
    go_ret
    exact ⟨rfl, HB2.out⟩
  · obtain rfl : b = -1 := HOUT.out (by omega)
    by_cases h2 : 0 ≤ a
    · have h3 : ¬ a < (n : Int) := by omega
      go_wp2
      go_ret
      exact ⟨rfl, HB2.out⟩
    · go_wp2
      go_ret
      exact ⟨rfl, HB2.out⟩

end Go.Proofs.Ytckbooccgdddbaa
