/- Chapter 40: slices of readings; functions of the reference implementation. -/
import Derived.Test.YtddbobphmakmmaaWb40
namespace Go.Proofs.Ytddbobphmakmmaa
open Go.RowKit

/-- A reading lies at an address. -/
def RdAt (w : World) (b q : Nat) (x : Rd) : Prop := w.cell? ⟨b, q, none⟩ = some (.int .i64 x.s) ∧ w.cell? ⟨b, q + 1, none⟩ = some (.int .i64 x.n) ∧ w.cell? ⟨b, q + 2, none⟩ = some (.int .i64 x.m) ∧ w.cell? ⟨b, q + 3, none⟩ = some (.int .i64 x.r) ∧ w.cell? ⟨b, q + 4, none⟩ = some (.int .u64 x.k)
/-- The cells of a slice of readings. -/
def Rds (w : World) (o : Option Addr) (l : List Rd) : Prop := ∀ i, i < l.length → ∃ b off, o = some ⟨b, off, none⟩ ∧ RdAt w b (off + i * 5) (getR l i)

theorem RdAt.later {w w' : World} {b q : Nat} {x : Rd} (h : RdAt w b q x) (hb : Below w.heap.size w w') : RdAt w' b q x :=
  ⟨cell_kept hb h.1, cell_kept hb h.2.1, cell_kept hb h.2.2.1, cell_kept hb h.2.2.2.1, cell_kept hb h.2.2.2.2⟩
theorem Rds.later {w w' : World} {o : Option Addr} {l : List Rd} (h : Rds w o l) (hb : Below w.heap.size w w') : Rds w' o l := fun i hi => by
  obtain ⟨b, off, ho, hc⟩ := h i hi
  exact ⟨b, off, ho, hc.later hb⟩
theorem Rds.nil {w : World} {o : Option Addr} : Rds w o [] := fun _ hi => absurd hi (Nat.not_lt_zero _)

/-- A reading in a block of its own. -/
def RdB (w : World) (b : Nat) (x : Rd) : Prop := Blk w b 45 #[.int .i64 x.s, .int .i64 x.n, .int .i64 x.m, .int .i64 x.r, .int .u64 x.k]
theorem RdB.cells {w : World} {b : Nat} {x : Rd} (h : RdB w b x) : w.cell? ⟨b, 0, none⟩ = some (.int .i64 x.s) ∧ w.cell? ⟨b, 1, none⟩ = some (.int .i64 x.n) ∧ w.cell? ⟨b, 2, none⟩ = some (.int .i64 x.m) ∧ w.cell? ⟨b, 3, none⟩ = some (.int .i64 x.r) ∧ w.cell? ⟨b, 4, none⟩ = some (.int .u64 x.k) :=
  ⟨h.cell 0, h.cell 1, h.cell 2, h.cell 3, h.cell 4⟩
theorem RdB.later {w w' : World} {b : Nat} {x : Rd} (h : RdB w b x) (hb : Below w.heap.size w w') : RdB w' b x := Blk.later h hb
theorem RdB.new (w : World) (x : Rd) : RdB (w.alloc (.cells #[.int .i64 x.s, .int .i64 x.n, .int .i64 x.m, .int .i64 x.r, .int .u64 x.k] 45)) w.heap.size x := Blk.new ..

set_option maxHeartbeats 1000000 in
theorem refValid_any (x : Rd) (w : World) : Calls Try.prog 36 #[rdV x] w (Ret (.bool (validR x)) w) := by
  go_enter Try.func36, Try.ntmps36
  go_wp2
  all_goals
    go_ret
    refine ⟨ret_bool ?_, by go_grown⟩
    rw [Bool.eq_iff_iff]
    simp only [validR, decide_eq_true_eq, Bool.false_eq_true, false_iff] at *
    omega

def flw (b x : Rd) : Bool := !oldR b x && !laterR b x

set_option maxHeartbeats 1000000 in
theorem follows_any (x b : Rd) (w : World) : Calls Try.prog 37 #[rdV x, rdV b] w (Ret (.bool (flw b x)) w) := by
  go_enter Try.func37, Try.ntmps37
  go_wp2
  all_goals
    go_ret
    refine ⟨ret_bool ?_, by go_grown⟩
    rw [Bool.eq_iff_iff]
    simp [flw, oldR, laterR] at *
    omega

theorem okAt_get {l : List Rd} {i : Nat} (hi : i < l.length) : okAt l i = okN (prevAt l i) i (getR l i) := by
  unfold okAt
  rw [getR_some hi]
theorem prevAt_zero (l : List Rd) : prevAt l 0 = none := rfl
theorem prevAt_pos {l : List Rd} {i : Nat} (h0 : 0 < i) (hi : i < l.length) : prevAt l i = some (getR l (i - 1)) := by
  unfold prevAt
  rw [if_neg (by omega), getR_some (by omega)]

set_option maxHeartbeats 4000000 in
theorem fits_any (o : Option Addr) (cap : Nat) (l : List Rd) (i : Nat) (w : World) (hr : Rds w o l) (hi : i < l.length) (hl : l.length ≤ 9223372036854775807) : Calls Try.prog 28 #[.slice o l.length cap, .int .i64 i] w (Ret (.bool (okAt l i)) w) := by
  rw [okAt_get hi]
  obtain ⟨b, off, rfl, hx⟩ := hr i hi
  have y1 : (0 : Int) ≤ (i : Int) := by omega
  have y2 : (i : Int) < (l.length : Int) := by omega
  have e1 : IntKind.i64.wrap ((i : Int) + 1) = (i : Int) + 1 := IntWalk.i64_in _ (by omega)
  obtain ⟨x, hxe⟩ : ∃ x, getR l i = x := ⟨_, rfl⟩
  rw [hxe] at hx ⊢
  have HX := Lib.hid hx
  clear hx hxe
  obtain ⟨v, hv⟩ : ∃ v, validR x = v := ⟨_, rfl⟩
  have HV := Lib.hid hv
  have hvn := fun h : validR x = true => (validR_iff.1 h).2.1
  rw [hv] at hvn
  obtain ⟨V, hV⟩ : ∃ V, okN (prevAt l i) i x = V := ⟨_, rfl⟩
  rw [hV]
  have HVV := Lib.hid hV
  clear hv hV
  by_cases h64 : i < 64
  · have h64b : decide ((i : Int) < 64) = true := by simp; omega
    cases v with
    | false =>
      obtain rfl : false = V := by rw [← HVV.out]; simp [okN, HV.out]
      go_enter Try.func28, Try.ntmps28
      go_wp2_with fail
      refine wp_region_B 36 (fun w'' => Below w.heap.size w w'') mixed (by kernel_rfl) (below_closed w) (Below.refl _ _).drew ?_
      simp only [List.take_succ_cons, List.take_zero, List.drop_succ_cons, List.drop_zero]
      intro KR hR
      have HR := Lib.hid hR
      clear hR
      have HCC := Lib.hid (show ∀ w'', Below w.heap.size w w'' → w''.cell? ⟨b, off + i * 5, none⟩ = some (.int .i64 x.s) ∧ w''.cell? ⟨b, off + i * 5 + 1, none⟩ = some (.int .i64 x.n) ∧ w''.cell? ⟨b, off + i * 5 + 2, none⟩ = some (.int .i64 x.m) ∧ w''.cell? ⟨b, off + i * 5 + 3, none⟩ = some (.int .i64 x.r) ∧ w''.cell? ⟨b, off + i * 5 + 4, none⟩ = some (.int .u64 x.k) from fun w'' hw => ⟨(HX.out.later hw).1, (HX.out.later hw).2.1, (HX.out.later hw).2.2.1, (HX.out.later hw).2.2.2.1, (HX.out.later hw).2.2.2.2⟩)
      repeat (first
        | ((with_reducible refine wpB_move ?_ ?_); exact rfl; simp only [Act.put, List.setIfInBounds_toArray, List.set_cons_zero, List.set_cons_succ])
        | ((with_reducible refine wpB_skip ?_ ?_); exact rfl; simp only [Act.put, List.setIfInBounds_toArray, List.set_cons_zero, List.set_cons_succ])
        | (apply wpB_call 36 #[rdV x] rfl (v := .bool false)
           · (intro w'; go_simp)
           · exact fun w' hw' => by rw [← HV.out]; exact refValid_any x w'
           simp only [Act.put, List.setIfInBounds_toArray, List.set_cons_zero, List.set_cons_succ])
        | (apply wpB_val rfl
           · (intro w' hw'; obtain ⟨c0, c1, c2, c3, c4⟩ := HCC.out w' hw'; go_simp; with_reducible rfl)
           simp only [Act.put, List.setIfInBounds_toArray, List.set_cons_zero, List.set_cons_succ]))
      refine wpB_nil (HR.out _ (fun w2 hw2 => ?_))
      clear HR HCC
      have HB2 := Lib.hid hw2
      clear hw2
      go_wp2
      go_ret
      exact ⟨rfl, HB2.out⟩
    | true =>
      by_cases hn : x.n = (i : Int) + 1
      · have hnb : (x.n == (i : Int) + 1) = true := by simpa using hn
        by_cases h0 : i = 0
        · have h0b : ((i : Int) == 0) = true := by simpa using h0
          obtain rfl : true = V := by rw [← HVV.out]; simp [okN, HV.out, hn, prevAt, h0]
          clear hn h0
          go_enter Try.func28, Try.ntmps28
          go_wp2_with fail
          refine wp_region_B 36 (fun w'' => Below w.heap.size w w'') mixed (by kernel_rfl) (below_closed w) (Below.refl _ _).drew ?_
          simp only [List.take_succ_cons, List.take_zero, List.drop_succ_cons, List.drop_zero]
          intro KR hR
          have HR := Lib.hid hR
          clear hR
          have HCC := Lib.hid (show ∀ w'', Below w.heap.size w w'' → w''.cell? ⟨b, off + i * 5, none⟩ = some (.int .i64 x.s) ∧ w''.cell? ⟨b, off + i * 5 + 1, none⟩ = some (.int .i64 x.n) ∧ w''.cell? ⟨b, off + i * 5 + 2, none⟩ = some (.int .i64 x.m) ∧ w''.cell? ⟨b, off + i * 5 + 3, none⟩ = some (.int .i64 x.r) ∧ w''.cell? ⟨b, off + i * 5 + 4, none⟩ = some (.int .u64 x.k) from fun w'' hw => ⟨(HX.out.later hw).1, (HX.out.later hw).2.1, (HX.out.later hw).2.2.1, (HX.out.later hw).2.2.2.1, (HX.out.later hw).2.2.2.2⟩)
          repeat (first
            | ((with_reducible refine wpB_move ?_ ?_); exact rfl; simp only [Act.put, List.setIfInBounds_toArray, List.set_cons_zero, List.set_cons_succ])
            | ((with_reducible refine wpB_skip ?_ ?_); exact rfl; simp only [Act.put, List.setIfInBounds_toArray, List.set_cons_zero, List.set_cons_succ])
            | (apply wpB_call 36 #[rdV x] rfl (v := .bool true)
               · (intro w'; go_simp)
               · exact fun w' hw' => by rw [← HV.out]; exact refValid_any x w'
               simp only [Act.put, List.setIfInBounds_toArray, List.set_cons_zero, List.set_cons_succ])
            | (apply wpB_val rfl
               · (intro w' hw'; obtain ⟨c0, c1, c2, c3, c4⟩ := HCC.out w' hw'; go_simp; with_reducible rfl)
               simp only [Act.put, List.setIfInBounds_toArray, List.set_cons_zero, List.set_cons_succ]))
          refine wpB_nil (HR.out _ (fun w2 hw2 => ?_))
          clear HR HCC
          have HB2 := Lib.hid hw2
          clear hw2
          go_wp2
          go_ret
          exact ⟨rfl, HB2.out⟩
        · have h0b : ((i : Int) == 0) = false := by simpa using h0
          obtain ⟨b2, off2, hbo, hy⟩ := hr (i - 1) (by omega)
          injection hbo with hbo
          injection hbo with hb1 ho1
          subst hb1 ho1
          rw [prevAt_pos (by omega) hi] at HVV
          obtain ⟨y, hye⟩ : ∃ y, getR l (i - 1) = y := ⟨_, rfl⟩
          rw [hye] at hy HVV
          have HY := Lib.hid hy
          have HW : Hid (flw y x = V) := Lib.hid (by rw [← HVV.out]; simp [okN, HV.out, hn, flw])
          have e2 : IntKind.i64.wrap ((i : Int) - 1) = ((i - 1 : Nat) : Int) := (IntWalk.i64_in _ (by omega)).trans (by omega)
          have y3 : (0 : Int) ≤ ((i - 1 : Nat) : Int) := by omega
          have y4 : ((i - 1 : Nat) : Int) < (l.length : Int) := by omega
          obtain ⟨j, hj⟩ : ∃ j, i - 1 = j := ⟨_, rfl⟩
          rw [hj] at e2 y3 y4 HY
          clear hn hy hye hr hj HVV h0
          go_enter Try.func28, Try.ntmps28
          go_wp2_with fail
          refine wp_region_B 36 (fun w'' => Below w.heap.size w w'') mixed (by kernel_rfl) (below_closed w) (Below.refl _ _).drew ?_
          simp only [List.take_succ_cons, List.take_zero, List.drop_succ_cons, List.drop_zero]
          intro KR hR
          have HR := Lib.hid hR
          clear hR
          have HCC := Lib.hid (show ∀ w'', Below w.heap.size w w'' → w''.cell? ⟨b, off + i * 5, none⟩ = some (.int .i64 x.s) ∧ w''.cell? ⟨b, off + i * 5 + 1, none⟩ = some (.int .i64 x.n) ∧ w''.cell? ⟨b, off + i * 5 + 2, none⟩ = some (.int .i64 x.m) ∧ w''.cell? ⟨b, off + i * 5 + 3, none⟩ = some (.int .i64 x.r) ∧ w''.cell? ⟨b, off + i * 5 + 4, none⟩ = some (.int .u64 x.k) ∧ w''.cell? ⟨b, off + j * 5, none⟩ = some (.int .i64 y.s) ∧ w''.cell? ⟨b, off + j * 5 + 1, none⟩ = some (.int .i64 y.n) ∧ w''.cell? ⟨b, off + j * 5 + 2, none⟩ = some (.int .i64 y.m) ∧ w''.cell? ⟨b, off + j * 5 + 3, none⟩ = some (.int .i64 y.r) ∧ w''.cell? ⟨b, off + j * 5 + 4, none⟩ = some (.int .u64 y.k) from fun w'' hw => ⟨(HX.out.later hw).1, (HX.out.later hw).2.1, (HX.out.later hw).2.2.1, (HX.out.later hw).2.2.2.1, (HX.out.later hw).2.2.2.2, (HY.out.later hw).1, (HY.out.later hw).2.1, (HY.out.later hw).2.2.1, (HY.out.later hw).2.2.2.1, (HY.out.later hw).2.2.2.2⟩)
          repeat (first
            | ((with_reducible refine wpB_move ?_ ?_); exact rfl; simp only [Act.put, List.setIfInBounds_toArray, List.set_cons_zero, List.set_cons_succ])
            | ((with_reducible refine wpB_skip ?_ ?_); exact rfl; simp only [Act.put, List.setIfInBounds_toArray, List.set_cons_zero, List.set_cons_succ])
            | (apply wpB_call 36 #[rdV x] rfl (v := .bool true)
               · (intro w'; go_simp)
               · exact fun w' hw' => by rw [← HV.out]; exact refValid_any x w'
               simp only [Act.put, List.setIfInBounds_toArray, List.set_cons_zero, List.set_cons_succ])
            | (apply wpB_call 37 #[rdV x, rdV y] rfl (v := .bool V)
               · (intro w'; go_simp)
               · exact fun w' hw' => by rw [← HW.out]; exact follows_any x y w'
               simp only [Act.put, List.setIfInBounds_toArray, List.set_cons_zero, List.set_cons_succ])
            | (apply wpB_val rfl
               · (intro w' hw'; obtain ⟨c0, c1, c2, c3, c4, c5, c6, c7, c8, c9⟩ := HCC.out w' hw'; go_simp; with_reducible rfl)
               simp only [Act.put, List.setIfInBounds_toArray, List.set_cons_zero, List.set_cons_succ]))
          refine wpB_nil (HR.out _ (fun w2 hw2 => ?_))
          clear HR HCC
          have HB2 := Lib.hid hw2
          clear hw2
          go_wp2
          go_ret
          exact ⟨rfl, HB2.out⟩
      · have hnb : (x.n == (i : Int) + 1) = false := by simpa using hn
        obtain rfl : false = V := by rw [← HVV.out]; simp [okN, HV.out, hn]
        clear hn
        go_enter Try.func28, Try.ntmps28
        go_wp2_with fail
        refine wp_region_B 36 (fun w'' => Below w.heap.size w w'') mixed (by kernel_rfl) (below_closed w) (Below.refl _ _).drew ?_
        simp only [List.take_succ_cons, List.take_zero, List.drop_succ_cons, List.drop_zero]
        intro KR hR
        have HR := Lib.hid hR
        clear hR
        have HCC := Lib.hid (show ∀ w'', Below w.heap.size w w'' → w''.cell? ⟨b, off + i * 5, none⟩ = some (.int .i64 x.s) ∧ w''.cell? ⟨b, off + i * 5 + 1, none⟩ = some (.int .i64 x.n) ∧ w''.cell? ⟨b, off + i * 5 + 2, none⟩ = some (.int .i64 x.m) ∧ w''.cell? ⟨b, off + i * 5 + 3, none⟩ = some (.int .i64 x.r) ∧ w''.cell? ⟨b, off + i * 5 + 4, none⟩ = some (.int .u64 x.k) from fun w'' hw => ⟨(HX.out.later hw).1, (HX.out.later hw).2.1, (HX.out.later hw).2.2.1, (HX.out.later hw).2.2.2.1, (HX.out.later hw).2.2.2.2⟩)
        repeat (first
          | ((with_reducible refine wpB_move ?_ ?_); exact rfl; simp only [Act.put, List.setIfInBounds_toArray, List.set_cons_zero, List.set_cons_succ])
          | ((with_reducible refine wpB_skip ?_ ?_); exact rfl; simp only [Act.put, List.setIfInBounds_toArray, List.set_cons_zero, List.set_cons_succ])
          | (apply wpB_call 36 #[rdV x] rfl (v := .bool true)
             · (intro w'; go_simp)
             · exact fun w' hw' => by rw [← HV.out]; exact refValid_any x w'
             simp only [Act.put, List.setIfInBounds_toArray, List.set_cons_zero, List.set_cons_succ])
          | (apply wpB_val rfl
             · (intro w' hw'; obtain ⟨c0, c1, c2, c3, c4⟩ := HCC.out w' hw'; go_simp; with_reducible rfl)
             simp only [Act.put, List.setIfInBounds_toArray, List.set_cons_zero, List.set_cons_succ]))
        refine wpB_nil (HR.out _ (fun w2 hw2 => ?_))
        clear HR HCC
        have HB2 := Lib.hid hw2
        clear hw2
        go_wp2
        go_ret
        exact ⟨rfl, HB2.out⟩
  · have h64b : decide ((i : Int) < 64) = false := by simp; omega
    obtain rfl : false = V := by
      rw [← HVV.out]
      cases v with
      | false => simp [okN, HV.out]
      | true =>
        have := hvn rfl
        have hn : ¬ x.n = (i : Int) + 1 := by omega
        simp [okN, hn]
    go_enter Try.func28, Try.ntmps28
    go_wp2_with fail
    refine wp_region_B 36 (fun w'' => Below w.heap.size w w'') mixed (by kernel_rfl) (below_closed w) (Below.refl _ _).drew ?_
    simp only [List.take_succ_cons, List.take_zero, List.drop_succ_cons, List.drop_zero]
    intro KR hR
    have HR := Lib.hid hR
    clear hR
    repeat (first
      | ((with_reducible refine wpB_move ?_ ?_); exact rfl; simp only [Act.put, List.setIfInBounds_toArray, List.set_cons_zero, List.set_cons_succ])
      | ((with_reducible refine wpB_skip ?_ ?_); exact rfl; simp only [Act.put, List.setIfInBounds_toArray, List.set_cons_zero, List.set_cons_succ])
      | (apply wpB_val rfl
         · (intro w' hw'; go_simp; with_reducible rfl)
         simp only [Act.put, List.setIfInBounds_toArray, List.set_cons_zero, List.set_cons_succ]))
    refine wpB_nil (HR.out _ (fun w2 hw2 => ?_))
    clear HR
    have HB2 := Lib.hid hw2
    clear hw2
    go_wp2
    go_ret
    exact ⟨rfl, HB2.out⟩

end Go.Proofs.Ytddbobphmakmmaa
