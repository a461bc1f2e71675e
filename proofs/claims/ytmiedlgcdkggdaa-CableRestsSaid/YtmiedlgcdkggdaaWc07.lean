/- Chapter 07: hot, Next, Permitted. -/
import Derived.Test.YtmiedlgcdkggdaaWb07
namespace Go.Proofs.Ytmiedlgcdkggdaa
open Go.RowKit

theorem quiet_of_below {P : Program} {f : FuncId} {args : Array Value} {w : World} {v : Value} (h : Calls P f args w fun e w' => e = .returned v ∧ w' = w) : Calls P f args w (Ret v w) :=
  h.mono fun _ _ ⟨he, hw⟩ => ⟨he, hw ▸ Below.refl _ _⟩

set_option maxHeartbeats 1000000 in
theorem hot_any (b : Nat) (a m g l d t : Int) (w : World) (h : Warm w b a m g l d t) : Calls Try.prog 21 #[.pointer (some ⟨b, 0, none⟩)] w (Ret (.bool (!zeroC a m g l d && decide (m < t))) w) := by
  obtain ⟨c0, c1, c2, c3, c4, c5⟩ := h.cells
  have HW := Lib.hid h
  obtain ⟨z, hz⟩ : ∃ z, zeroC a m g l d = z := ⟨_, rfl⟩
  have HZ := Lib.hid hz
  rw [hz]
  clear h hz
  have HN := fun n => Lib.hid (none_any b a m g l d t (w.drewN n) (HW.out.drewN n))
  rw [HZ.out] at HN
  cases z with
  | true =>
    go_enter Try.func21, Try.ntmps21
    go_wp2_with fail
    go_quiet ((go_at_call 14; exact Calls.quiet_of_same (HN _).out))
    go_wp2
    go_ret
    exact ⟨rfl, below_drewN (Below.refl _ _) _⟩
  | false =>
    go_enter Try.func21, Try.ntmps21
    go_wp2_with fail
    go_quiet ((go_at_call 14; exact Calls.quiet_of_same (HN _).out))
    go_wp2
    go_ret
    exact ⟨rfl, below_drewN (Below.refl _ _) _⟩

/-- What cable.Next returns. -/
def nextV (a m g l d t x : Int) : Value := if nextOk a m g l d t x then (if isT (nextN a m g l d t x) then .tuple #[.int .i64 (nextN a m g l d t x), .int .i64 0] else .tuple #[.int .i64 0, .int .i64 3]) else .tuple #[.int .i64 0, .int .i64 1]

theorem below_grown {w w1 w2 : World} {b : Nat} (h : Below w.heap.size w w1) (hb : w.heap.size ≤ b) (hg : w1.grownBy w2 (some b)) : Below w.heap.size w w2 :=
  h.grown hg h.size (fun k hk => by cases hk; exact hb)

set_option maxHeartbeats 2000000 in
theorem next_any (a m g l d t x : Int) (w : World) : Calls Try.prog 11 #[cabV a m g l d, .int .i64 t, .int .i64 x] w (Ret (nextV a m g l d t x) w) := by
  obtain ⟨V, hV⟩ : ∃ V, nextV a m g l d t x = V := ⟨_, rfl⟩
  rw [hV]
  have HV := Lib.hid hV
  clear hV
  unfold nextV nextOk at HV
  obtain ⟨v, hv⟩ : ∃ v, validC a m g l d = v := ⟨_, rfl⟩
  have HVV := Lib.hid hv
  clear hv
  cases v with
  | false =>
    obtain rfl : .tuple #[.int .i64 0, .int .i64 1] = V := by have := HV.out; rw [HVV.out] at this; exact this
    go_enter Try.func11, Try.ntmps11
    go_wp2_with fail
    refine (valid_any a m g l d _).mono ?_
    rintro e w1 ⟨rfl, hb⟩
    rw [HVV.out]
    have HB := Lib.hid (below_step (below_alloc (Below.refl _ _) _) hb)
    clear hb
    go_wp2
    go_ret2
    exact ⟨rfl, HB.out⟩
  | true =>
    obtain ⟨p, hp⟩ : ∃ p, isT t = p := ⟨_, rfl⟩
    have HP := Lib.hid hp
    clear hp
    cases p with
    | false =>
      obtain rfl : .tuple #[.int .i64 0, .int .i64 1] = V := by have := HV.out; rw [HVV.out, HP.out] at this; exact this
      go_enter Try.func11, Try.ntmps11
      go_wp2_with fail
      refine (valid_any a m g l d _).mono ?_
      rintro e w1 ⟨rfl, hb⟩
      rw [HVV.out]
      have HB := Lib.hid (below_step (below_alloc (Below.refl _ _) _) hb)
      clear hb
      go_wp2_with fail
      refine (isTemp_any _ _).mono ?_
      rintro e w2 ⟨rfl, rfl⟩
      rw [HP.out]
      go_wp2
      go_ret2
      exact ⟨rfl, HB.out⟩
    | true =>
      obtain ⟨q, hq⟩ : ∃ q, isI x = q := ⟨_, rfl⟩
      have HQ := Lib.hid hq
      clear hq
      cases q with
      | false =>
        obtain rfl : .tuple #[.int .i64 0, .int .i64 1] = V := by have := HV.out; rw [HVV.out, HP.out, HQ.out] at this; exact this
        go_enter Try.func11, Try.ntmps11
        go_wp2_with fail
        refine (valid_any a m g l d _).mono ?_
        rintro e w1 ⟨rfl, hb⟩
        rw [HVV.out]
        have HB := Lib.hid (below_step (below_alloc (Below.refl _ _) _) hb)
        clear hb
        go_wp2_with fail
        refine (isTemp_any _ _).mono ?_
        rintro e w2 ⟨rfl, rfl⟩
        rw [HP.out]
        go_wp2_with fail
        refine (isCurrent_any _ _).mono ?_
        rintro e w2 ⟨rfl, rfl⟩
        rw [HQ.out]
        go_wp2
        go_ret2
        exact ⟨rfl, HB.out⟩
      | true =>
        rw [HVV.out, HP.out, HQ.out] at HV
        simp only [Bool.and_self, if_true] at HV
        obtain ⟨N, hN⟩ : ∃ N, nextN a m g l d t x = N := ⟨_, rfl⟩
        rw [hN] at HV
        have HN := Lib.hid hN
        clear hN
        go_enter Try.func11, Try.ntmps11
        go_wp2_with fail
        refine (valid_any a m g l d _).mono ?_
        rintro e w1 ⟨rfl, hb⟩
        rw [HVV.out]
        have HB := Lib.hid (below_step (below_alloc (Below.refl _ _) _) hb)
        have hbx := (Blk.new w 23 #[.int .i64 a, .int .i64 m, .int .i64 g, .int .i64 l, .int .i64 d]).later hb
        have k0 := hbx.cell 0
        have k1 := hbx.cell 1
        have k2 := hbx.cell 2
        have k3 := hbx.cell 3
        have k4 := hbx.cell 4
        clear hb hbx
        go_wp2_with fail
        refine (isTemp_any _ _).mono ?_
        rintro e w2 ⟨rfl, rfl⟩
        rw [HP.out]
        go_wp2_with fail
        refine (isCurrent_any _ _).mono ?_
        rintro e w2 ⟨rfl, rfl⟩
        rw [HQ.out]
        simp at k0 k1 k2 k3 k4
        go_wp2_with fail
        clear k0 k1 k2 k3 k4
        have HW : Hid (Warm (w2.alloc (.cells #[.int .i64 a, .int .i64 m, .int .i64 g, .int .i64 l, .int .i64 d, .int .i64 t] 38)) w2.heap.size a m g l d t) := Lib.hid (Blk.new ..)
        have HT : Hid (Calls Try.prog 20 #[.pointer (some ⟨w2.heap.size, 0, none⟩), .int .i64 x] (w2.alloc (.cells #[.int .i64 a, .int .i64 m, .int .i64 g, .int .i64 l, .int .i64 d, .int .i64 t] 38)) fun e w' => e = .returned (.tuple #[]) ∧ Warm w' w2.heap.size a m g l d N ∧ (w2.alloc (.cells #[.int .i64 a, .int .i64 m, .int .i64 g, .int .i64 l, .int .i64 d, .int .i64 t] 38)).grownBy w' (some w2.heap.size)) := by
          have h1 := HP.out
          have h2 := HQ.out
          simp only [isT, isI, decide_eq_true_eq] at h1 h2
          cases hz : zeroC a m g l d with
          | true =>
            obtain rfl : t = N := by have := HN.out; unfold nextN at this; rw [hz] at this; exact this
            exact Lib.hid ((tick_zero w2.heap.size a m g l d t x _ HW.out hz).mono fun e w' ⟨he, hw⟩ => ⟨he, hw ▸ HW.out, hw ▸ World.grownBy.refl _ _⟩)
          | false =>
            obtain rfl : nextT a g l d t x = N := by have := HN.out; unfold nextN at this; rw [hz] at this; exact this
            have hv := HVV.out
            rw [validC, hz, Bool.false_or] at hv
            exact Lib.hid (tick_any w2.heap.size a m g l d t x _ HW.out hz hv h1.1 h1.2 h2.1 h2.2)
        refine HT.out.mono ?_
        clear HT HW
        rintro e w3 ⟨rfl, hw3, hg⟩
        obtain ⟨c0, c1, c2, c3, c4, c5⟩ := hw3.cells
        have HB3 := Lib.hid (below_grown (below_alloc HB.out _) HB.out.size hg)
        clear hg hw3 HB c0 c1 c2 c3 c4
        go_wp2_with fail
        refine (isTemp_any _ _).mono ?_
        rintro e w4 ⟨rfl, rfl⟩
        obtain ⟨s, hs⟩ : ∃ s, isT N = s := ⟨_, rfl⟩
        rw [hs] at HV ⊢
        clear hs
        cases s with
        | false =>
          obtain rfl : .tuple #[.int .i64 0, .int .i64 3] = V := HV.out
          go_wp2
          go_ret2
          exact ⟨rfl, HB3.out⟩
        | true =>
          obtain rfl : .tuple #[.int .i64 N, .int .i64 0] = V := HV.out
          go_wp2
          go_ret2
          exact ⟨rfl, HB3.out⟩

end Go.Proofs.Ytmiedlgcdkggdaa
