/- Package auditor: add. -/
import Derived.Test.YtkfmmiekajgdjaaGreatWk43
namespace Go.Proofs.YtkfmmiekajgdjaaGreat
open Go.RowKit
attribute [local go_sem] Oper.semAt_some

def sumL (l : List (Int × Int)) : Int := l.foldl (fun n x => n + x.2) 0
def capA (l : List Art) (n : Int) : Int := l.foldl (fun n a => if a.k = 5 then min n a.p else n) n
def taxOf (n r : Int) : Int := (2 * n * r + 10000) / 20000
def addOk (n r : Int) : Bool := decide (n ≤ 1000000000) && decide (n + taxOf n r ≤ 1000000000)
theorem sumL_take {l : List (Int × Int)} {k : Nat} (h : k < l.length) : sumL (l.take (k + 1)) = sumL (l.take k) + (l.getD k (0, 0)).2 := by
  rw [take_pr h]
  unfold sumL
  rw [List.foldl_append]
  rfl
theorem capA_take {l : List Art} {k : Nat} {n : Int} (h : k < l.length) : capA (l.take (k + 1)) n = if (getArt l k).k = 5 then min (capA (l.take k) n) (getArt l k).p else capA (l.take k) n := by
  rw [take_art h]
  unfold capA
  rw [List.foldl_append]
  rfl
theorem getD_memP {l : List (Int × Int)} {k : Nat} (h : k < l.length) : l.getD k (0, 0) ∈ l := by
  rw [List.getD_eq_getElem?_getD, List.getElem?_eq_getElem h]
  exact List.getElem_mem _
theorem sumL_bound {l : List (Int × Int)} (hl : ∀ x ∈ l, 0 ≤ x.2 ∧ x.2 ≤ 1000000000) : ∀ k, k ≤ l.length → 0 ≤ sumL (l.take k) ∧ sumL (l.take k) ≤ 1000000000 * k
  | 0, _ => by simp [sumL]
  | k + 1, h => by
    have ih := sumL_bound hl k (by omega)
    have hx := hl _ (getD_memP (by omega : k < l.length))
    rw [sumL_take (by omega)]
    push_cast
    omega
theorem capA_bound {l : List Art} (hl : ∀ k, k < l.length → artA (getArt l k) = true) {n : Int} (hn : 0 ≤ n) : ∀ k, k ≤ l.length → 0 ≤ capA (l.take k) n ∧ capA (l.take k) n ≤ n
  | 0, _ => by simp [capA]; exact hn
  | k + 1, h => by
    have ih := capA_bound hl hn k (by omega)
    have hp := art_price (hl k (by omega))
    rw [capA_take (by omega)]
    split <;> omega
theorem tax_bound {n r : Int} (n0 : 0 ≤ n) (n1 : n ≤ 1000000000) (r0 : 0 ≤ r) (r1 : r ≤ 10000) : 0 ≤ 2 * n * r ∧ 2 * n * r ≤ 20000000000000 := by
  refine ⟨Int.mul_nonneg (by omega) r0, ?_⟩
  calc 2 * n * r ≤ 2 * n * 10000 := Int.mul_le_mul_of_nonneg_left r1 (by omega)
    _ ≤ 20000000000000 := by omega
/-- What add leaves. -/
def AddOut (w0 w : World) (g : Nat) (c : ClA) (s : SesA) (ol : Option Addr) (cl : Nat) (l : List (Int × Int)) (r : Int) (e : Ending) (w' : World) : Prop :=
  Agr w w' [g] ∧ ((addOk (capA c.arts (sumL l)) r = true ∧ e = .returned (.tuple #[]) ∧ ExM w0 w' g c s ⟨ol, cl, l, capA c.arts (sumL l), taxOf (capA c.arts (sumL l)) r, capA c.arts (sumL l) + taxOf (capA c.arts (sumL l)) r⟩ r) ∨ (addOk (capA c.arts (sumL l)) r = false ∧ e = .panicked [wrongP 5] ∧ ∃ b, ExM w0 w' g c s b r))

set_option maxRecDepth 100000 in
set_option maxHeartbeats 16000000 in
theorem add_any (w0 w : World) (g : Nat) (c : ClA) (s : SesA) (ol : Option Addr) (cl : Nat) (l : List (Int × Int)) (r : Int) (h : ExM w0 w g c s ⟨ol, cl, l, 0, 0, 0⟩ r) (hln : TwosS [g] w ol l) (hl : ∀ x ∈ l, 0 ≤ x.2 ∧ x.2 ≤ 1000000000) (hl12 : l.length ≤ 12) (ha12 : c.arts.length ≤ 12) (ha : ∀ k, k < c.arts.length → artA (getArt c.arts k) = true) (r0 : 0 ≤ r) (r1 : r ≤ 10000) : Calls Tryz.prog 53 #[.pointer (some ⟨g, 0, none⟩)] w (AddOut w0 w g c s ol cl l r) := by
  have HX := Lib.hid h
  have HLN := Lib.hid hln
  have HLB := Lib.hid (sumL_bound hl)
  have HCB := Lib.hid (fun n hn => capA_bound (n := n) ha hn)
  clear h hln hl ha
  have HNO := Lib.hid (fun (w' : World) (b : BilA) (hv : addOk (capA c.arts (sumL l)) r = false) (hag : Agr w w' [g]) (hx : ExM w0 w' g c s b r) => show AddOut w0 w g c s ol cl l r (.panicked [wrongP 5]) w' from ⟨hag, .inr ⟨hv, rfl, b, hx⟩⟩)
  have HOK := Lib.hid (fun (w' : World) (hv : addOk (capA c.arts (sumL l)) r = true) (hag : Agr w w' [g]) (hx : ExM w0 w' g c s ⟨ol, cl, l, capA c.arts (sumL l), taxOf (capA c.arts (sumL l)) r, capA c.arts (sumL l) + taxOf (capA c.arts (sumL l)) r⟩ r) => show AddOut w0 w g c s ol cl l r (.returned (.tuple #[])) w' from ⟨hag, .inl ⟨hv, rfl, hx⟩⟩)
  obtain ⟨OUT, hOUT⟩ : ∃ O, AddOut w0 w g c s ol cl l r = O := ⟨_, rfl⟩
  rw [hOUT] at HNO HOK ⊢
  clear hOUT
  go_enter Tryz.func53, Tryz.ntmps53
  have x19 : w.cell? ⟨g, 19, none⟩ = some (.slice ol l.length cl) := HX.out.blk.cell 19
  go_wp2
  clear x19
  go_loopw [12] (fun i wr => ∃ k : Nat, k ≤ l.length ∧ i = .int .i64 k ∧ Agr w wr [g] ∧ ExM w0 wr g c s ⟨ol, cl, l, sumL (l.take k), 0, 0⟩ r) (fun i _ => l.length - (intOf i).toNat)
  case atStart => exact ⟨0, Nat.zero_le _, rfl, Agr.refl _ _, HX.out⟩
  case round =>
    obtain ⟨k, hk, rfl, hag, hx⟩ := hrel
    obtain ⟨wA, rfl⟩ : ∃ wA : World, wA = wr := ⟨_, rfl⟩
    have HAG := Lib.hid hag
    have HXA := Lib.hid hx
    clear hag hx
    by_cases hlt : k < l.length
    · have HSB := Lib.hid (HLB.out k hk)
      have HST := Lib.hid (sumL_take hlt)
      have HSB2 := Lib.hid (HLB.out (k + 1) hlt)
      rw [HST.out] at HSB2
      obtain ⟨gx, fx, hgo, hne, x0, x1⟩ := (HLN.out.agr HAG.out (fun _ h => h)) k hlt
      clear hne
      obtain ⟨x, hx⟩ : ∃ x, l.getD k (0, 0) = x := ⟨_, rfl⟩
      rw [hx] at x0 x1 HST HSB2
      clear hx
      obtain ⟨S, hS⟩ : ∃ S, sumL (l.take k) = S := ⟨_, rfl⟩
      rw [hS] at HSB HST HSB2 HXA
      clear hS
      rw [hgo]
      have y1 : (0 : Int) ≤ (k : Int) := by omega
      have y2 : (k : Int) < (l.length : Int) := by omega
      go_upto_region 3 with (fail)
      obtain ⟨W1, hW1⟩ : ∃ W1, W1 = wA.alloc (.cells #[.int .i64 x.1, .int .i64 x.2] 119) := ⟨_, rfl⟩
      have HQ := Lib.hid (show Blk W1 wA.heap.size 119 #[.int .i64 x.1, .int .i64 x.2] by rw [hW1]; exact Blk.new _ _ _)
      have HB1 := Lib.hid (show Below wA.heap.size wA W1 by rw [hW1]; exact below_alloc (Below.refl _ _) _)
      try rw [← hW1]
      clear hW1 x0 x1
      replace HXA := Lib.hid (HXA.out.later HB1.out)
      replace HAG := Lib.hid (HAG.out.later HB1.out)
      clear HB1
      obtain ⟨Q, hQ⟩ : ∃ B, wA.heap.size = B := ⟨_, rfl⟩
      rw [hQ] at HQ ⊢
      clear hQ
      have HJ0 := Lib.hid (show W1.cell? ⟨g, 20, none⟩ = some (.int .i64 S) ∧ W1.cell? ⟨Q, 1, none⟩ = some (.int .i64 x.2) from ⟨HXA.out.blk.cell 20, HQ.out.cell 1⟩)
      clear HQ
      have hw1 : IntKind.i64.wrap (S + x.2) = S + x.2 := IntWalk.i64_in _ (by have := HSB2.out.1; have := HSB2.out.2; omega)
      refine wp_region_mask [11] [true, true, true, true, true, true, true, true, true, true, true, false] (fun w'' => w''.cell? ⟨g, 20, none⟩ = some (.int .i64 S) ∧ w''.cell? ⟨Q, 1, none⟩ = some (.int .i64 x.2)) mixed (by kernel_rfl) ?_
      intro KR hR
      have HR := Lib.hid hR
      clear hR
      simp only [marked]
      apply wpM_val rfl
      · (intro w' hw'; go_simp; with_reducible rfl)
      simp only [Act.put, List.setIfInBounds_toArray, List.set_cons_zero, List.set_cons_succ]
      apply wpM_val rfl
      · (intro w' hw'; go_simp; with_reducible rfl)
      simp only [Act.put, List.setIfInBounds_toArray, List.set_cons_zero, List.set_cons_succ]
      apply wpM_val rfl
      · (intro w' hw'; go_simp; with_reducible rfl)
      simp only [Act.put, List.setIfInBounds_toArray, List.set_cons_zero, List.set_cons_succ]
      apply wpM_val rfl
      · (intro w' hw'; go_simp; with_reducible rfl)
      simp only [Act.put, List.setIfInBounds_toArray, List.set_cons_zero, List.set_cons_succ]
      apply wpM_val rfl
      · (intro w' hw'; obtain ⟨c0, c1⟩ := hw'; go_simp; with_reducible rfl)
      simp only [Act.put, List.setIfInBounds_toArray, List.set_cons_zero, List.set_cons_succ]
      apply wpM_val rfl
      · (intro w' hw'; go_simp; with_reducible rfl)
      simp only [Act.put, List.setIfInBounds_toArray, List.set_cons_zero, List.set_cons_succ]
      apply wpM_val rfl
      · (intro w' hw'; obtain ⟨c0, c1⟩ := hw'; go_simp; with_reducible rfl)
      simp only [Act.put, List.setIfInBounds_toArray, List.set_cons_zero, List.set_cons_succ]
      apply wpM_val rfl
      · (intro w' hw'; go_simp; with_reducible rfl)
      simp only [Act.put, List.setIfInBounds_toArray, List.set_cons_zero, List.set_cons_succ]
      apply wpM_val rfl
      · (intro w' hw'; go_simp; with_reducible rfl)
      simp only [Act.put, List.setIfInBounds_toArray, List.set_cons_zero, List.set_cons_succ]
      apply wpM_val rfl
      · (intro w' hw'; go_simp; with_reducible rfl)
      simp only [Act.put, List.setIfInBounds_toArray, List.set_cons_zero, List.set_cons_succ]
      apply wpM_val rfl
      · (intro w' hw'; go_simp; with_reducible rfl)
      simp only [Act.put, List.setIfInBounds_toArray, List.set_cons_zero, List.set_cons_succ]
      refine wpM_nil (HR.out _ ?_)
      clear HR
      generalize hW8 : World.drew W1 = W8
      have HJ8 := Lib.hid (show W8.cell? ⟨g, 20, none⟩ = some (.int .i64 S) ∧ W8.cell? ⟨Q, 1, none⟩ = some (.int .i64 x.2) from by rw [← hW8]; exact HJ0.out)
      have HX8 := Lib.hid (show ExM w0 W8 g c s ⟨ol, cl, l, S, 0, 0⟩ r from by rw [← hW8]; exact HXA.out.later (Below.refl _ _).drew)
      have HA8 := Lib.hid (show Agr w W8 [g] from by rw [← hW8]; exact HAG.out.later (Below.refl _ _).drew)
      clear hW8 HJ0 HXA HAG
      have f0 := HX8.out.blk.frozen 20
      have g0 := HJ8.out.1
      refine wpC_skip rfl rfl HJ8.out (w' := W8.setCell ⟨g, 20, none⟩ (.int .i64 (S + x.2))) (by go_simp) ?_
      simp only [Act.put]
      clear f0 g0
      have HX9 := Lib.hid (show ExM w0 (W8.setCell ⟨g, 20, none⟩ (.int .i64 (S + x.2))) g c s ⟨ol, cl, l, sumL (l.take (k + 1)), 0, 0⟩ r by rw [HST.out]; exact HX8.out.set (by simp))
      have HA9 := Lib.hid (HA8.out.trans (agr_set (i := 20) (u := .int .i64 (S + x.2))) (fun _ h => h))
      clear HJ8 HX8 HA8
      refine wpC_nil ?_
      go_wp2
      go_roundw
      case rel => exact ⟨k + 1, hlt, by go_num, HA9.out, by rw [← hgo]; exact HX9.out⟩
      case measure => simp [intOf]; omega
    · obtain rfl : k = l.length := by omega
      have HSB := Lib.hid (HLB.out l.length (Nat.le_refl _))
      rw [List.take_length] at HXA HSB
      have hsb := HSB.out.2
      obtain ⟨N, hN⟩ : ∃ N, sumL l = N := ⟨_, rfl⟩
      rw [hN] at HXA HSB HNO HOK hsb
      clear hN
      replace HCB := Lib.hid (HCB.out N HSB.out.1)
      have hN1 : N ≤ 12000000000 := by omega
      clear hsb HLB HSB HLN
      have x1 : wA.cell? ⟨g, 1, none⟩ = some (.slice c.oa c.arts.length c.ca) := HXA.out.blk.cell 1
      go_wp2
      clear x1
      go_loopw [35] (fun i wr => ∃ k : Nat, k ≤ c.arts.length ∧ i = .int .i64 k ∧ Agr w wr [g] ∧ ExM w0 wr g c s ⟨ol, cl, l, capA (c.arts.take k) N, 0, 0⟩ r) (fun i _ => c.arts.length - (intOf i).toNat)
      case atStart => exact ⟨0, Nat.zero_le _, rfl, HAG.out, HXA.out⟩
      case round =>
        obtain ⟨k, hk, rfl, hag, hx⟩ := hrel
        clear HAG HXA
        obtain ⟨wB, rfl⟩ : ∃ wB : World, wB = wr := ⟨_, rfl⟩
        have HAG := Lib.hid hag
        have HXA := Lib.hid hx
        clear hag hx
        by_cases hlt : k < c.arts.length
        · have HCK := Lib.hid (HCB.out k hk)
          have HCT := Lib.hid (capA_take (n := N) hlt)
          obtain ⟨ga, fa, hgo, a0, a1, a2, a3, a4, a5, a6⟩ := HXA.out.here.arts k hlt
          obtain ⟨a, ha⟩ : ∃ a, getArt c.arts k = a := ⟨_, rfl⟩
          rw [ha] at a0 a1 a2 a3 a4 a5 a6 HCT
          clear ha
          obtain ⟨M, hM⟩ : ∃ M, capA (c.arts.take k) N = M := ⟨_, rfl⟩
          rw [hM] at HCK HCT HXA
          clear hM
          rw [hgo]
          have y1 : (0 : Int) ≤ (k : Int) := by omega
          have y2 : (k : Int) < (c.arts.length : Int) := by omega
          go_upto_region 8 with (fail)
          obtain ⟨W1, hW1⟩ : ∃ W1, W1 = wB.alloc (.cells #[.int .i64 a.k, .int .i64 a.d, .int .i64 a.f, .int .i64 a.t, .int .i64 a.p, .int .i64 a.u, .int .i64 a.r] 72) := ⟨_, rfl⟩
          have HQ := Lib.hid (show Blk W1 wB.heap.size 72 #[.int .i64 a.k, .int .i64 a.d, .int .i64 a.f, .int .i64 a.t, .int .i64 a.p, .int .i64 a.u, .int .i64 a.r] by rw [hW1]; exact Blk.new _ _ _)
          have HB1 := Lib.hid (show Below wB.heap.size wB W1 by rw [hW1]; exact below_alloc (Below.refl _ _) _)
          try rw [← hW1]
          clear hW1 a0 a1 a2 a3 a4 a5 a6
          replace HXA := Lib.hid (HXA.out.later HB1.out)
          replace HAG := Lib.hid (HAG.out.later HB1.out)
          clear HB1
          obtain ⟨Q, hQ⟩ : ∃ B, wB.heap.size = B := ⟨_, rfl⟩
          rw [hQ] at HQ ⊢
          clear hQ
          have a0 : W1.cell? ⟨Q, 0, none⟩ = some (.int .i64 a.k) := HQ.out.cell 0
          by_cases h5 : a.k = 5
          · have d5 : (a.k == 5) = true := by simpa using h5
            have HC2 := Lib.hid (show capA (c.arts.take (k + 1)) N = min M a.p by rw [HCT.out, if_pos h5])
            clear h5
            go_upto_region 9 with (fail)
            clear a0
            have HJ0 := Lib.hid (show W1.cell? ⟨g, 20, none⟩ = some (.int .i64 M) ∧ W1.cell? ⟨Q, 4, none⟩ = some (.int .i64 a.p) from ⟨HXA.out.blk.cell 20, HQ.out.cell 4⟩)
            clear HQ
            refine wp_region_mask [12] [true, true, true, true, true, true, true, true, true, true, true, true, false] (fun w'' => w''.cell? ⟨g, 20, none⟩ = some (.int .i64 M) ∧ w''.cell? ⟨Q, 4, none⟩ = some (.int .i64 a.p)) mixed (by kernel_rfl) ?_
            intro KR hR
            have HR := Lib.hid hR
            clear hR
            simp only [marked]
            apply wpM_val rfl
            · (intro w' hw'; go_simp; with_reducible rfl)
            simp only [Act.put, List.setIfInBounds_toArray, List.set_cons_zero, List.set_cons_succ]
            apply wpM_val rfl
            · (intro w' hw'; go_simp; with_reducible rfl)
            simp only [Act.put, List.setIfInBounds_toArray, List.set_cons_zero, List.set_cons_succ]
            apply wpM_val rfl
            · (intro w' hw'; go_simp; with_reducible rfl)
            simp only [Act.put, List.setIfInBounds_toArray, List.set_cons_zero, List.set_cons_succ]
            apply wpM_val rfl
            · (intro w' hw'; go_simp; with_reducible rfl)
            simp only [Act.put, List.setIfInBounds_toArray, List.set_cons_zero, List.set_cons_succ]
            apply wpM_val rfl
            · (intro w' hw'; go_simp; with_reducible rfl)
            simp only [Act.put, List.setIfInBounds_toArray, List.set_cons_zero, List.set_cons_succ]
            apply wpM_val rfl
            · (intro w' hw'; obtain ⟨c0, c1⟩ := hw'; go_simp; with_reducible rfl)
            simp only [Act.put, List.setIfInBounds_toArray, List.set_cons_zero, List.set_cons_succ]
            apply wpM_val rfl
            · (intro w' hw'; go_simp; with_reducible rfl)
            simp only [Act.put, List.setIfInBounds_toArray, List.set_cons_zero, List.set_cons_succ]
            apply wpM_val rfl
            · (intro w' hw'; obtain ⟨c0, c1⟩ := hw'; go_simp; with_reducible rfl)
            simp only [Act.put, List.setIfInBounds_toArray, List.set_cons_zero, List.set_cons_succ]
            apply wpM_val rfl
            · (intro w' hw'; go_simp; with_reducible rfl)
            simp only [Act.put, List.setIfInBounds_toArray, List.set_cons_zero, List.set_cons_succ]
            apply wpM_val rfl
            · (intro w' hw'; go_simp; with_reducible rfl)
            simp only [Act.put, List.setIfInBounds_toArray, List.set_cons_zero, List.set_cons_succ]
            apply wpM_val rfl
            · (intro w' hw'; go_simp; with_reducible rfl)
            simp only [Act.put, List.setIfInBounds_toArray, List.set_cons_zero, List.set_cons_succ]
            apply wpM_val rfl
            · (intro w' hw'; go_simp; with_reducible rfl)
            simp only [Act.put, List.setIfInBounds_toArray, List.set_cons_zero, List.set_cons_succ]
            refine wpM_nil (HR.out _ ?_)
            clear HR
            generalize hW8 : World.drew W1 = W8
            have HJ8 := Lib.hid (show W8.cell? ⟨g, 20, none⟩ = some (.int .i64 M) ∧ W8.cell? ⟨Q, 4, none⟩ = some (.int .i64 a.p) from by rw [← hW8]; exact HJ0.out)
            have HX8 := Lib.hid (show ExM w0 W8 g c s ⟨ol, cl, l, M, 0, 0⟩ r from by rw [← hW8]; exact HXA.out.later (Below.refl _ _).drew)
            have HA8 := Lib.hid (show Agr w W8 [g] from by rw [← hW8]; exact HAG.out.later (Below.refl _ _).drew)
            clear hW8 HJ0 HXA HAG
            have f0 := HX8.out.blk.frozen 20
            have g0 := HJ8.out.1
            refine wpC_skip rfl rfl HJ8.out (w' := W8.setCell ⟨g, 20, none⟩ (.int .i64 (if a.p < M then a.p else M))) (by go_simp) ?_
            simp only [Act.put]
            clear f0 g0
            have hmn : (if a.p < M then a.p else M) = min M a.p := by split <;> omega
            have HX9 := Lib.hid (show ExM w0 (W8.setCell ⟨g, 20, none⟩ (.int .i64 (if a.p < M then a.p else M))) g c s ⟨ol, cl, l, capA (c.arts.take (k + 1)) N, 0, 0⟩ r by rw [HC2.out, hmn]; exact HX8.out.set (by simp))
            have HA9 := Lib.hid (HA8.out.trans (agr_set (i := 20) (u := .int .i64 (if a.p < M then a.p else M))) (fun _ h => h))
            clear HJ8 HX8 HA8 hmn
            refine wpC_nil ?_
            go_wp2
            go_roundw
            case rel => exact ⟨k + 1, hlt, by go_num, HA9.out, HX9.out⟩
            case measure => simp [intOf]; omega
          · have d5 : (a.k == 5) = false := by simpa using h5
            have HC2 := Lib.hid (show capA (c.arts.take (k + 1)) N = M by rw [HCT.out, if_neg h5])
            clear h5
            go_wp2
            go_roundw
            case rel => exact ⟨k + 1, hlt, by go_num, HAG.out, by rw [HC2.out]; exact HXA.out⟩
            case measure => simp [intOf]; omega
        · obtain rfl : k = c.arts.length := by omega
          have HCK := Lib.hid (HCB.out c.arts.length (Nat.le_refl _))
          rw [List.take_length] at HXA HCK
          obtain ⟨M, hM⟩ : ∃ M, capA c.arts N = M := ⟨_, rfl⟩
          rw [hM] at HXA HCK HNO HOK
          clear hM
          have hM0 : 0 ≤ M := HCK.out.1
          have e20 : wB.cell? ⟨g, 20, none⟩ = some (.int .i64 M) := HXA.out.blk.cell 20
          obtain ⟨b1, hb1⟩ : ∃ b, decide (M ≤ 1000000000) = b := ⟨_, rfl⟩
          have HLE := Lib.hid hb1
          cases b1 with
          | false =>
            go_wp2_with fail
            refine (need_no 5 wB).mono ?_
            rintro _ _ ⟨rfl, rfl⟩
            clear hb1
            go_wp2
            exact ⟨rfl, HNO.out _ _ (by unfold addOk; rw [HLE.out]; rfl) HAG.out HXA.out⟩
          | true =>
          go_wp2_with fail
          refine (need_ok 5 wB).mono ?_
          rintro _ _ ⟨rfl, rfl⟩
          clear hb1 e20
          have hM1 : M ≤ 1000000000 := of_decide_eq_true HLE.out
          have HTB := Lib.hid (tax_bound hM0 hM1 r0 r1)
          have HOKV := Lib.hid (show addOk M r = decide (M + taxOf M r ≤ 1000000000) by unfold addOk; rw [HLE.out]; rfl)
          have HTV := Lib.hid (show (2 * M * r + 10000) / 20000 = taxOf M r from rfl)
          obtain ⟨X, hX⟩ : ∃ X, taxOf M r = X := ⟨_, rfl⟩
          rw [hX] at HOK HOKV HTV
          clear hX
          obtain ⟨Y, hY⟩ : ∃ Y, 2 * M * r = Y := ⟨_, rfl⟩
          have hw0 : IntKind.i64.wrap (2 * M) = 2 * M := IntWalk.i64_in _ (by omega)
          have hw1 : IntKind.i64.wrap (2 * M * r) = Y := by rw [hY]; rw [hY] at HTB; exact IntWalk.i64_in _ (by have := HTB.out.1; have := HTB.out.2; omega)
          rw [hY] at HTB HTV
          clear hY
          have hY0 := HTB.out.1
          have hY1 := HTB.out.2
          have hw2 : IntKind.i64.wrap (Y + 10000) = Y + 10000 := IntWalk.i64_in _ (by omega)
          have hdv : (Y + 10000).tdiv 20000 = X := by rw [Int.tdiv_eq_ediv_of_nonneg (by omega)]; exact HTV.out
          have hX0 : 0 ≤ X := by have := HTV.out; omega
          have hX1 : X ≤ 1000000001 := by have := HTV.out; omega
          have hw3 : IntKind.i64.wrap X = X := IntWalk.i64_in _ (by omega)
          have HJ0 := Lib.hid (show wB.cell? ⟨g, 20, none⟩ = some (.int .i64 M) ∧ wB.cell? ⟨g, 23, none⟩ = some (.int .i64 r) from ⟨HXA.out.blk.cell 20, HXA.out.blk.cell 23⟩)
          go_upto_region 12 with (fail)
          refine wp_region_mask [17] [true, true, true, true, true, true, true, true, true, true, true, true, true, true, true, true, true, false] (fun w'' => w''.cell? ⟨g, 20, none⟩ = some (.int .i64 M) ∧ w''.cell? ⟨g, 23, none⟩ = some (.int .i64 r)) mixed (by kernel_rfl) ?_
          intro KR hR
          have HR := Lib.hid hR
          clear hR
          simp only [marked]
          apply wpM_val rfl
          · (intro w' hw'; go_simp; with_reducible rfl)
          simp only [Act.put, List.setIfInBounds_toArray, List.set_cons_zero, List.set_cons_succ]
          apply wpM_val rfl
          · (intro w' hw'; go_simp; with_reducible rfl)
          simp only [Act.put, List.setIfInBounds_toArray, List.set_cons_zero, List.set_cons_succ]
          apply wpM_val rfl
          · (intro w' hw'; go_simp; with_reducible rfl)
          simp only [Act.put, List.setIfInBounds_toArray, List.set_cons_zero, List.set_cons_succ]
          apply wpM_val rfl
          · (intro w' hw'; go_simp; with_reducible rfl)
          simp only [Act.put, List.setIfInBounds_toArray, List.set_cons_zero, List.set_cons_succ]
          apply wpM_val rfl
          · (intro w' hw'; go_simp; with_reducible rfl)
          simp only [Act.put, List.setIfInBounds_toArray, List.set_cons_zero, List.set_cons_succ]
          apply wpM_val rfl
          · (intro w' hw'; obtain ⟨c0, c1⟩ := hw'; go_simp; with_reducible rfl)
          simp only [Act.put, List.setIfInBounds_toArray, List.set_cons_zero, List.set_cons_succ]
          apply wpM_val rfl
          · (intro w' hw'; go_simp; with_reducible rfl)
          simp only [Act.put, List.setIfInBounds_toArray, List.set_cons_zero, List.set_cons_succ]
          apply wpM_val rfl
          · (intro w' hw'; go_simp; with_reducible rfl)
          simp only [Act.put, List.setIfInBounds_toArray, List.set_cons_zero, List.set_cons_succ]
          apply wpM_val rfl
          · (intro w' hw'; go_simp; with_reducible rfl)
          simp only [Act.put, List.setIfInBounds_toArray, List.set_cons_zero, List.set_cons_succ]
          apply wpM_val rfl
          · (intro w' hw'; go_simp; with_reducible rfl)
          simp only [Act.put, List.setIfInBounds_toArray, List.set_cons_zero, List.set_cons_succ]
          apply wpM_val rfl
          · (intro w' hw'; obtain ⟨c0, c1⟩ := hw'; go_simp; with_reducible rfl)
          simp only [Act.put, List.setIfInBounds_toArray, List.set_cons_zero, List.set_cons_succ]
          apply wpM_val rfl
          · (intro w' hw'; go_simp; with_reducible rfl)
          simp only [Act.put, List.setIfInBounds_toArray, List.set_cons_zero, List.set_cons_succ]
          apply wpM_val rfl
          · (intro w' hw'; go_simp; with_reducible rfl)
          simp only [Act.put, List.setIfInBounds_toArray, List.set_cons_zero, List.set_cons_succ]
          apply wpM_val rfl
          · (intro w' hw'; go_simp; with_reducible rfl)
          simp only [Act.put, List.setIfInBounds_toArray, List.set_cons_zero, List.set_cons_succ]
          apply wpM_val rfl
          · (intro w' hw'; go_simp; with_reducible rfl)
          simp only [Act.put, List.setIfInBounds_toArray, List.set_cons_zero, List.set_cons_succ]
          apply wpM_val rfl
          · (intro w' hw'; go_simp; with_reducible rfl)
          simp only [Act.put, List.setIfInBounds_toArray, List.set_cons_zero, List.set_cons_succ]
          apply wpM_val rfl
          · (intro w' hw'; go_simp; with_reducible rfl)
          simp only [Act.put, List.setIfInBounds_toArray, List.set_cons_zero, List.set_cons_succ]
          refine wpM_nil (HR.out _ ?_)
          clear HR
          generalize hW8 : World.drew wB = W8
          have HJ8 := Lib.hid (show W8.cell? ⟨g, 20, none⟩ = some (.int .i64 M) ∧ W8.cell? ⟨g, 23, none⟩ = some (.int .i64 r) from by rw [← hW8]; exact HJ0.out)
          have HX8 := Lib.hid (show ExM w0 W8 g c s ⟨ol, cl, l, M, 0, 0⟩ r from by rw [← hW8]; exact HXA.out.later (Below.refl _ _).drew)
          have HA8 := Lib.hid (show Agr w W8 [g] from by rw [← hW8]; exact HAG.out.later (Below.refl _ _).drew)
          clear hW8 HJ0 HXA HAG
          have f0 := HX8.out.blk.frozen 21
          have g0 : W8.cell? ⟨g, 21, none⟩ = some (.int .i64 0) := HX8.out.blk.cell 21
          refine wpC_skip rfl rfl HJ8.out (w' := W8.setCell ⟨g, 21, none⟩ (.int .i64 X)) (by go_simp) ?_
          simp only [Act.put]
          clear f0 g0
          obtain ⟨W9, hW9⟩ : ∃ W : World, W = W8.setCell ⟨g, 21, none⟩ (.int .i64 X) := ⟨_, rfl⟩
          have HX9 := Lib.hid (show ExM w0 W9 g c s ⟨ol, cl, l, M, X, 0⟩ r by rw [hW9]; exact HX8.out.set (by simp))
          have HA9 := Lib.hid (show Agr w W9 [g] by rw [hW9]; exact HA8.out.trans (agr_set (i := 21) (u := .int .i64 X)) (fun _ h => h))
          rw [← hW9]
          clear hW9 HJ8 HX8 HA8 hw0 hw1 hw2 hdv hw3
          refine wpC_nil ?_
          have hw4 : IntKind.i64.wrap (M + X) = M + X := IntWalk.i64_in _ (by omega)
          have HJ0 := Lib.hid (show W9.cell? ⟨g, 20, none⟩ = some (.int .i64 M) ∧ W9.cell? ⟨g, 21, none⟩ = some (.int .i64 X) from ⟨HX9.out.blk.cell 20, HX9.out.blk.cell 21⟩)
          go_upto_region 13 with (fail)
          refine wp_region_mask [15] [true, true, true, true, true, true, true, true, true, true, true, true, true, true, true, false] (fun w'' => w''.cell? ⟨g, 20, none⟩ = some (.int .i64 M) ∧ w''.cell? ⟨g, 21, none⟩ = some (.int .i64 X)) mixed (by kernel_rfl) ?_
          intro KR hR
          have HR := Lib.hid hR
          clear hR
          simp only [marked]
          apply wpM_val rfl
          · (intro w' hw'; go_simp; with_reducible rfl)
          simp only [Act.put, List.setIfInBounds_toArray]
          apply wpM_val rfl
          · (intro w' hw'; go_simp; with_reducible rfl)
          simp only [Act.put]
          apply wpM_val rfl
          · (intro w' hw'; go_simp; with_reducible rfl)
          simp only [Act.put]
          apply wpM_val rfl
          · (intro w' hw'; go_simp; with_reducible rfl)
          simp only [Act.put]
          apply wpM_val rfl
          · (intro w' hw'; go_simp; with_reducible rfl)
          simp only [Act.put]
          apply wpM_val rfl
          · (intro w' hw'; obtain ⟨c0, c1⟩ := hw'; go_simp; with_reducible rfl)
          simp only [Act.put]
          apply wpM_val rfl
          · (intro w' hw'; go_simp; with_reducible rfl)
          simp only [Act.put]
          apply wpM_val rfl
          · (intro w' hw'; go_simp; with_reducible rfl)
          simp only [Act.put]
          apply wpM_val rfl
          · (intro w' hw'; go_simp; with_reducible rfl)
          simp only [Act.put]
          apply wpM_val rfl
          · (intro w' hw'; go_simp; with_reducible rfl)
          simp only [Act.put]
          apply wpM_val rfl
          · (intro w' hw'; obtain ⟨c0, c1⟩ := hw'; go_simp; with_reducible rfl)
          simp only [Act.put]
          apply wpM_val rfl
          · (intro w' hw'; go_simp; with_reducible rfl)
          simp only [Act.put]
          apply wpM_val rfl
          · (intro w' hw'; go_simp; with_reducible rfl)
          simp only [Act.put]
          apply wpM_val rfl
          · (intro w' hw'; go_simp; with_reducible rfl)
          simp only [Act.put]
          apply wpM_val rfl
          · (intro w' hw'; go_simp; with_reducible rfl)
          simp only [Act.put]
          refine wpM_nil (HR.out _ ?_)
          clear HR
          generalize hW8 : World.drew W9 = W8
          have HJ8 := Lib.hid (show W8.cell? ⟨g, 20, none⟩ = some (.int .i64 M) ∧ W8.cell? ⟨g, 21, none⟩ = some (.int .i64 X) from by rw [← hW8]; exact HJ0.out)
          have HX8 := Lib.hid (show ExM w0 W8 g c s ⟨ol, cl, l, M, X, 0⟩ r from by rw [← hW8]; exact HX9.out.later (Below.refl _ _).drew)
          have HA8 := Lib.hid (show Agr w W8 [g] from by rw [← hW8]; exact HA9.out.later (Below.refl _ _).drew)
          clear hW8 HJ0 HX9 HA9
          have f0 := HX8.out.blk.frozen 22
          have g0 : W8.cell? ⟨g, 22, none⟩ = some (.int .i64 0) := HX8.out.blk.cell 22
          refine wpC_skip rfl rfl HJ8.out (w' := W8.setCell ⟨g, 22, none⟩ (.int .i64 (M + X))) (by go_simp) ?_
          simp only [Act.put]
          clear f0 g0
          obtain ⟨W9, hW9⟩ : ∃ W : World, W = W8.setCell ⟨g, 22, none⟩ (.int .i64 (M + X)) := ⟨_, rfl⟩
          have HX9 := Lib.hid (show ExM w0 W9 g c s ⟨ol, cl, l, M, X, M + X⟩ r by rw [hW9]; exact HX8.out.set (by simp))
          have HA9 := Lib.hid (show Agr w W9 [g] by rw [hW9]; exact HA8.out.trans (agr_set (i := 22) (u := .int .i64 (M + X))) (fun _ h => h))
          rw [← hW9]
          clear hW9 HJ8 HX8 HA8 hw4
          refine wpC_nil ?_
          have e22 : W9.cell? ⟨g, 22, none⟩ = some (.int .i64 (M + X)) := HX9.out.blk.cell 22
          obtain ⟨b1, hb1⟩ : ∃ b, decide (M + X ≤ 1000000000) = b := ⟨_, rfl⟩
          rw [hb1] at HOKV
          cases b1 with
          | false =>
            go_wp2_with fail
            refine (need_no 5 W9).mono ?_
            rintro _ _ ⟨rfl, rfl⟩
            clear hb1
            go_wp2
            exact ⟨rfl, HNO.out _ _ HOKV.out HA9.out HX9.out⟩
          | true =>
          go_wp2_with fail
          refine (need_ok 5 W9).mono ?_
          rintro _ _ ⟨rfl, rfl⟩
          clear hb1
          go_wp2
          go_end0
          exact HOK.out _ HOKV.out HA9.out HX9.out
end Go.Proofs.YtkfmmiekajgdjaaGreat