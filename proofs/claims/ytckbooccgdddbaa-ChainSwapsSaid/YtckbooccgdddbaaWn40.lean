/- Chapter 40: ChainParts. -/
import Derived.Test.YtckbooccgdddbaaWk40
import Derived.Test.YtckbooccgdddbaaPlainC40
import Derived.IntWalk
namespace Go.Proofs.Ytckbooccgdddbaa
open Go.RowKit
attribute [local go_sem] Oper.semAt_some

def pe (l : List Rd) (i k : Nat) : Int := if ordered l then energy l i (k - i) else 0
def pf (l : List Rd) : Int := if ordered l then 0 else 1
theorem en_call {v : Value} {x y x' y' : Int} {w : World} {R : Ending → World → Prop} (h : Calls Try.prog 14 #[v, .int .i64 x, .int .i64 y] w R) (hx : x' = x) (hy : y' = y) : Calls Try.prog 14 #[v, .int .i64 x', .int .i64 y'] w R := by
  subst hx; subst hy; exact h
theorem en_of {l : List Rd} {i k : Nat} (h1 : 1 ≤ i) (h2 : i ≤ k) (h3 : k ≤ l.length) : enV l i k = .tuple #[.int .i64 (pe l i k), .int .i64 (pf l)] := by
  have h : enOk l i k = ordered l := by
    unfold enOk
    rw [decide_eq_true (by omega), Bool.and_true]
  have e : ((k : Int) - (i : Int)).toNat = k - i := by omega
  unfold enV enN pe pf
  rw [h, e]
  simp
theorem pe_add (l : List Rd) {i k m : Nat} (h1 : 1 ≤ i) (h2 : i ≤ k) (h3 : k ≤ m) (h4 : m ≤ l.length) : pe l i k + pe l k m = pe l i m ∧ 0 ≤ pe l i k ∧ 0 ≤ pe l k m ∧ pe l i k ≤ 1000000000000 ∧ pe l k m ≤ 1000000000000 := by
  unfold pe
  split
  · rename_i ho
    have hle := ordered_le ho
    have a := energy_nonneg ho (a := i) h1 (d := k - i) (by omega)
    have b := energy_nonneg ho (a := k) (by omega) (d := m - k) (by omega)
    have c := energy_add l i (k - i) (m - k)
    rw [show i + (k - i) = k by omega, show k - i + (m - k) = m - i by omega] at c
    have d1 : (k : Int) - i ≤ 64 := by omega
    have d2 : (m : Int) - k ≤ 64 := by omega
    refine ⟨c.symm, a.1, b.1, ?_, ?_⟩
    · have := a.2; omega
    · have := b.2; omega
  · simp


set_option maxRecDepth 100000 in
set_option maxHeartbeats 4000000 in
theorem chainParts_any (o : Option Addr) (cap : Nat) (l : List Rd) (a b c : Nat) (w : World) (hr : Rds w o l) (hl : l.length ≤ 9223372036854775807) (ha : a < 256) (hb : b < 256) (hc : c < 256) :
    Calls Try.prog 7 #[.slice o l.length cap, .int .u8 (a : Nat), .int .u8 (b : Nat), .int .u8 (c : Nat)] w (Ret (.bool true) w) := by
  have HR := Lib.hid hr
  clear hr
  go_enter Try.func7, Try.ntmps7
  go_wp2_with fail
  refine (head_any w).mono ?_
  rintro e w1 ⟨rfl, hb1⟩
  have HB1 := Lib.hid hb1
  clear hb1
  by_cases h0 : l.length = 0
  · have h0' : (l.length : Int) = 0 := by omega
    go_wp2_with fail
    go_ret
    exact ⟨rfl, HB1.out⟩
  by_cases h100 : 100 < l.length
  · go_wp2_with fail
    go_ret
    exact ⟨rfl, HB1.out⟩
  have q1 : (0 : Int) < (l.length : Int) := by omega
  have num : ∀ x : Nat, x < 256 → ∃ X : Nat, 1 ≤ X ∧ X ≤ l.length ∧ IntKind.i64.wrap (1 + (IntKind.i64.wrap (x : Int)).tmod (l.length : Int)) = (X : Int) := fun x hx => by
    have h1 := Nat.mod_lt x (show 0 < l.length by omega)
    have h2 := Nat.mod_le x l.length
    refine ⟨1 + x % l.length, by omega, by omega, ?_⟩
    rw [IntWalk.i64_in (x : Int) (by omega), ← Int.ofNat_tmod, IntWalk.i64_in _ (by omega)]
    simp
  obtain ⟨A, hA1, hA2, EA⟩ := num a ha
  obtain ⟨B, hB1, hB2, EB⟩ := num b hb
  obtain ⟨C, hC1, hC2, EC⟩ := num c hc
  replace EA := Lib.hid EA
  replace EB := Lib.hid EB
  replace EC := Lib.hid EC
  clear num
  go_wp2_with fail
  refine wp_region_B 21 (fun w'' => Below w1.heap.size w1 w'') mixed (by kernel_rfl) (below_closed w1) (Below.refl _ _).drew ?_
  simp only [List.take_succ_cons, List.take_zero, List.drop_succ_cons, List.drop_zero]
  intro KR hR
  have HR := Lib.hid hR
  clear hR
  repeat (first
    | ((with_reducible refine wpB_move ?_ ?_); exact rfl; simp only [Act.put, List.setIfInBounds_toArray, List.set_cons_zero, List.set_cons_succ])
    | ((with_reducible refine wpB_skip ?_ ?_); exact rfl; simp only [Act.put, List.setIfInBounds_toArray, List.set_cons_zero, List.set_cons_succ])
    | (apply wpB_val rfl
       · (intro w' hw'; go_simp; with_reducible rfl)
       simp only [Act.put, List.setIfInBounds_toArray, List.set_cons_zero, List.set_cons_succ]))
  refine wpB_nil (HR.out _ (fun w2 hw2 => ?_))
  clear HR
  have HB2 := Lib.hid (below_step HB1.out hw2)
  clear hw2
  rw [EA.out, EB.out, EC.out]
  have HE := Lib.hid (fun (x y : Nat) (W : World) (h : Below w.heap.size w W) => Energy_any o cap l x y W (HR.out.later h) hl)
  rcases Nat.lt_or_ge B A with hBA | hAB <;> rcases Nat.lt_or_ge C A with hCA | hAC <;> rcases Nat.lt_or_ge C B with hCB | hBC
  · have hIK : C ≤ B := by omega
    have hKM : B ≤ A := by omega
    have HP1 := Lib.hid (pe_add l (i := C) (k := B) (m := A) (by omega) hIK hKM (by omega))
    go_wp2_with fail
    all_goals
      refine (en_call (HE.out C B w2 HB2.out) (by omega) (by omega)).mono ?_
      rintro e w3 ⟨rfl, hb3⟩
      rw [en_of (i := C) (k := B) (by omega) (by omega) (by omega)]
      have HB3 := Lib.hid (below_step HB2.out hb3)
      clear hb3
      go_wp2_with fail
      refine (en_call (HE.out B A w3 HB3.out) (by omega) (by omega)).mono ?_
      rintro e w4 ⟨rfl, hb4⟩
      rw [en_of (i := B) (k := A) (by omega) (by omega) (by omega)]
      have HB4 := Lib.hid (below_step HB3.out hb4)
      clear hb4
      go_wp2_with fail
      refine (en_call (HE.out C A w4 HB4.out) (by omega) (by omega)).mono ?_
      rintro e w5 ⟨rfl, hb5⟩
      rw [en_of (i := C) (k := A) (by omega) (by omega) (by omega)]
      have HB5 := Lib.hid (below_step HB4.out hb5)
      clear hb5
      obtain ⟨g0, g1, g2, g3, g4⟩ := HP1.out
      obtain ⟨X, hX⟩ : ∃ X, pe l C B = X := ⟨_, rfl⟩
      obtain ⟨Y, hY⟩ : ∃ Y, pe l B A = Y := ⟨_, rfl⟩
      obtain ⟨Z, hZ⟩ : ∃ Z, pe l C A = Z := ⟨_, rfl⟩
      rw [hX, hY, hZ] at g0
      rw [hX] at g1 g3
      rw [hY] at g2 g4
      rw [hX, hY, hZ]
      clear hX hY hZ HP1
      subst g0
      go_wp2_with fail
      go_ret
      exact ⟨rfl, HB5.out⟩
  · have hIK : B ≤ C := by omega
    have hKM : C ≤ A := by omega
    have HP1 := Lib.hid (pe_add l (i := B) (k := C) (m := A) (by omega) hIK hKM (by omega))
    go_wp2_with fail
    all_goals
      refine (en_call (HE.out B C w2 HB2.out) (by omega) (by omega)).mono ?_
      rintro e w3 ⟨rfl, hb3⟩
      rw [en_of (i := B) (k := C) (by omega) (by omega) (by omega)]
      have HB3 := Lib.hid (below_step HB2.out hb3)
      clear hb3
      go_wp2_with fail
      refine (en_call (HE.out C A w3 HB3.out) (by omega) (by omega)).mono ?_
      rintro e w4 ⟨rfl, hb4⟩
      rw [en_of (i := C) (k := A) (by omega) (by omega) (by omega)]
      have HB4 := Lib.hid (below_step HB3.out hb4)
      clear hb4
      go_wp2_with fail
      refine (en_call (HE.out B A w4 HB4.out) (by omega) (by omega)).mono ?_
      rintro e w5 ⟨rfl, hb5⟩
      rw [en_of (i := B) (k := A) (by omega) (by omega) (by omega)]
      have HB5 := Lib.hid (below_step HB4.out hb5)
      clear hb5
      obtain ⟨g0, g1, g2, g3, g4⟩ := HP1.out
      obtain ⟨X, hX⟩ : ∃ X, pe l B C = X := ⟨_, rfl⟩
      obtain ⟨Y, hY⟩ : ∃ Y, pe l C A = Y := ⟨_, rfl⟩
      obtain ⟨Z, hZ⟩ : ∃ Z, pe l B A = Z := ⟨_, rfl⟩
      rw [hX, hY, hZ] at g0
      rw [hX] at g1 g3
      rw [hY] at g2 g4
      rw [hX, hY, hZ]
      clear hX hY hZ HP1
      subst g0
      go_wp2_with fail
      go_ret
      exact ⟨rfl, HB5.out⟩
  · omega
  · have hIK : B ≤ A := by omega
    have hKM : A ≤ C := by omega
    have HP1 := Lib.hid (pe_add l (i := B) (k := A) (m := C) (by omega) hIK hKM (by omega))
    go_wp2_with fail
    all_goals
      refine (en_call (HE.out B A w2 HB2.out) (by omega) (by omega)).mono ?_
      rintro e w3 ⟨rfl, hb3⟩
      rw [en_of (i := B) (k := A) (by omega) (by omega) (by omega)]
      have HB3 := Lib.hid (below_step HB2.out hb3)
      clear hb3
      go_wp2_with fail
      refine (en_call (HE.out A C w3 HB3.out) (by omega) (by omega)).mono ?_
      rintro e w4 ⟨rfl, hb4⟩
      rw [en_of (i := A) (k := C) (by omega) (by omega) (by omega)]
      have HB4 := Lib.hid (below_step HB3.out hb4)
      clear hb4
      go_wp2_with fail
      refine (en_call (HE.out B C w4 HB4.out) (by omega) (by omega)).mono ?_
      rintro e w5 ⟨rfl, hb5⟩
      rw [en_of (i := B) (k := C) (by omega) (by omega) (by omega)]
      have HB5 := Lib.hid (below_step HB4.out hb5)
      clear hb5
      obtain ⟨g0, g1, g2, g3, g4⟩ := HP1.out
      obtain ⟨X, hX⟩ : ∃ X, pe l B A = X := ⟨_, rfl⟩
      obtain ⟨Y, hY⟩ : ∃ Y, pe l A C = Y := ⟨_, rfl⟩
      obtain ⟨Z, hZ⟩ : ∃ Z, pe l B C = Z := ⟨_, rfl⟩
      rw [hX, hY, hZ] at g0
      rw [hX] at g1 g3
      rw [hY] at g2 g4
      rw [hX, hY, hZ]
      clear hX hY hZ HP1
      subst g0
      go_wp2_with fail
      go_ret
      exact ⟨rfl, HB5.out⟩
  · have hIK : C ≤ A := by omega
    have hKM : A ≤ B := by omega
    have HP1 := Lib.hid (pe_add l (i := C) (k := A) (m := B) (by omega) hIK hKM (by omega))
    go_wp2_with fail
    all_goals
      refine (en_call (HE.out C A w2 HB2.out) (by omega) (by omega)).mono ?_
      rintro e w3 ⟨rfl, hb3⟩
      rw [en_of (i := C) (k := A) (by omega) (by omega) (by omega)]
      have HB3 := Lib.hid (below_step HB2.out hb3)
      clear hb3
      go_wp2_with fail
      refine (en_call (HE.out A B w3 HB3.out) (by omega) (by omega)).mono ?_
      rintro e w4 ⟨rfl, hb4⟩
      rw [en_of (i := A) (k := B) (by omega) (by omega) (by omega)]
      have HB4 := Lib.hid (below_step HB3.out hb4)
      clear hb4
      go_wp2_with fail
      refine (en_call (HE.out C B w4 HB4.out) (by omega) (by omega)).mono ?_
      rintro e w5 ⟨rfl, hb5⟩
      rw [en_of (i := C) (k := B) (by omega) (by omega) (by omega)]
      have HB5 := Lib.hid (below_step HB4.out hb5)
      clear hb5
      obtain ⟨g0, g1, g2, g3, g4⟩ := HP1.out
      obtain ⟨X, hX⟩ : ∃ X, pe l C A = X := ⟨_, rfl⟩
      obtain ⟨Y, hY⟩ : ∃ Y, pe l A B = Y := ⟨_, rfl⟩
      obtain ⟨Z, hZ⟩ : ∃ Z, pe l C B = Z := ⟨_, rfl⟩
      rw [hX, hY, hZ] at g0
      rw [hX] at g1 g3
      rw [hY] at g2 g4
      rw [hX, hY, hZ]
      clear hX hY hZ HP1
      subst g0
      go_wp2_with fail
      go_ret
      exact ⟨rfl, HB5.out⟩
  · omega
  · have hIK : A ≤ C := by omega
    have hKM : C ≤ B := by omega
    have HP1 := Lib.hid (pe_add l (i := A) (k := C) (m := B) (by omega) hIK hKM (by omega))
    go_wp2_with fail
    all_goals
      refine (en_call (HE.out A C w2 HB2.out) (by omega) (by omega)).mono ?_
      rintro e w3 ⟨rfl, hb3⟩
      rw [en_of (i := A) (k := C) (by omega) (by omega) (by omega)]
      have HB3 := Lib.hid (below_step HB2.out hb3)
      clear hb3
      go_wp2_with fail
      refine (en_call (HE.out C B w3 HB3.out) (by omega) (by omega)).mono ?_
      rintro e w4 ⟨rfl, hb4⟩
      rw [en_of (i := C) (k := B) (by omega) (by omega) (by omega)]
      have HB4 := Lib.hid (below_step HB3.out hb4)
      clear hb4
      go_wp2_with fail
      refine (en_call (HE.out A B w4 HB4.out) (by omega) (by omega)).mono ?_
      rintro e w5 ⟨rfl, hb5⟩
      rw [en_of (i := A) (k := B) (by omega) (by omega) (by omega)]
      have HB5 := Lib.hid (below_step HB4.out hb5)
      clear hb5
      obtain ⟨g0, g1, g2, g3, g4⟩ := HP1.out
      obtain ⟨X, hX⟩ : ∃ X, pe l A C = X := ⟨_, rfl⟩
      obtain ⟨Y, hY⟩ : ∃ Y, pe l C B = Y := ⟨_, rfl⟩
      obtain ⟨Z, hZ⟩ : ∃ Z, pe l A B = Z := ⟨_, rfl⟩
      rw [hX, hY, hZ] at g0
      rw [hX] at g1 g3
      rw [hY] at g2 g4
      rw [hX, hY, hZ]
      clear hX hY hZ HP1
      subst g0
      go_wp2_with fail
      go_ret
      exact ⟨rfl, HB5.out⟩
  · have hIK : A ≤ B := by omega
    have hKM : B ≤ C := by omega
    have HP1 := Lib.hid (pe_add l (i := A) (k := B) (m := C) (by omega) hIK hKM (by omega))
    go_wp2_with fail
    all_goals
      refine (en_call (HE.out A B w2 HB2.out) (by omega) (by omega)).mono ?_
      rintro e w3 ⟨rfl, hb3⟩
      rw [en_of (i := A) (k := B) (by omega) (by omega) (by omega)]
      have HB3 := Lib.hid (below_step HB2.out hb3)
      clear hb3
      go_wp2_with fail
      refine (en_call (HE.out B C w3 HB3.out) (by omega) (by omega)).mono ?_
      rintro e w4 ⟨rfl, hb4⟩
      rw [en_of (i := B) (k := C) (by omega) (by omega) (by omega)]
      have HB4 := Lib.hid (below_step HB3.out hb4)
      clear hb4
      go_wp2_with fail
      refine (en_call (HE.out A C w4 HB4.out) (by omega) (by omega)).mono ?_
      rintro e w5 ⟨rfl, hb5⟩
      rw [en_of (i := A) (k := C) (by omega) (by omega) (by omega)]
      have HB5 := Lib.hid (below_step HB4.out hb5)
      clear hb5
      obtain ⟨g0, g1, g2, g3, g4⟩ := HP1.out
      obtain ⟨X, hX⟩ : ∃ X, pe l A B = X := ⟨_, rfl⟩
      obtain ⟨Y, hY⟩ : ∃ Y, pe l B C = Y := ⟨_, rfl⟩
      obtain ⟨Z, hZ⟩ : ∃ Z, pe l A C = Z := ⟨_, rfl⟩
      rw [hX, hY, hZ] at g0
      rw [hX] at g1 g3
      rw [hY] at g2 g4
      rw [hX, hY, hZ]
      clear hX hY hZ HP1
      subst g0
      go_wp2_with fail
      go_ret
      exact ⟨rfl, HB5.out⟩
end Go.Proofs.Ytckbooccgdddbaa
