/- Chapter 07: Hot. -/
import Derived.Test.YtmiedlgcdkggdaaWd07
namespace Go.Proofs.Ytmiedlgcdkggdaa
open Go.RowKit

/-- What the closure of Hot holds. -/
structure HotSt (w0 w : World) (q5 q11 q12 b : Nat) (oa : Option Addr) (cap : Nat) (xs : List Int) (a m g l d t : Int) : Prop where
  warm : Warm w b a m g l d t
  c5 : w.cell? ⟨q5, 0, none⟩ = some (.slice oa xs.length cap)
  c11 : w.cell? ⟨q11, 0, none⟩ = some (.func (.func 20) #[.pointer (some ⟨b, 0, none⟩)] #[])
  c12 : w.cell? ⟨q12, 0, none⟩ = some (.func (.func 21) #[.pointer (some ⟨b, 0, none⟩)] #[])
  n5 : q5 ≠ b
  n11 : q11 ≠ b
  n12 : q12 ≠ b
  hb : w0.heap.size ≤ b
  bel : Below w0.heap.size w0 w

section
variable {w0 w w' : World} {q5 q11 q12 b : Nat} {oa : Option Addr} {cap : Nat} {xs : List Int} {a m g l d t t' : Int}

theorem HotSt.later (h : HotSt w0 w q5 q11 q12 b oa cap xs a m g l d t) (hb : Below w.heap.size w w') : HotSt w0 w' q5 q11 q12 b oa cap xs a m g l d t :=
  ⟨Blk.later h.warm hb, cell_kept hb h.c5, cell_kept hb h.c11, cell_kept hb h.c12, h.n5, h.n11, h.n12, h.hb, below_step h.bel hb⟩

theorem cell_grown {p : Addr} {v : Value} {b : Nat} (h : w.cell? p = some v) (hg : w.grownBy w' (some b)) (hn : p.block ≠ b) : w'.cell? p = some v :=
  (World.cell?_of_block (hg.block p.block (cell_lt h) (fun e => hn (by injection e)))).trans h

theorem HotSt.step (h : HotSt w0 w q5 q11 q12 b oa cap xs a m g l d t) (hw : Warm w' b a m g l d t') (hg : w.grownBy w' (some b)) : HotSt w0 w' q5 q11 q12 b oa cap xs a m g l d t' :=
  ⟨hw, cell_grown h.c5 hg h.n5, cell_grown h.c11 hg h.n11, cell_grown h.c12 hg h.n12, h.n5, h.n11, h.n12, h.hb, below_grown h.bel h.hb hg⟩
end

/-- A tick, whatever the valid cable. -/
theorem tickN_any (b : Nat) (a m g l d t x : Int) (w : World) (h : Warm w b a m g l d t) (hv : validC a m g l d = true) (ht : 0 ≤ t ∧ t ≤ 1000000000) (hx : 0 ≤ x ∧ x ≤ 1000) :
    Calls Try.prog 20 #[.pointer (some ⟨b, 0, none⟩), .int .i64 x] w fun e w' => e = .returned (.tuple #[]) ∧ Warm w' b a m g l d (nextN a m g l d t x) ∧ w.grownBy w' (some b) := by
  cases hz : zeroC a m g l d with
  | true =>
    have e : nextN a m g l d t x = t := by rw [nextN, hz]; rfl
    rw [e]
    exact (tick_zero b a m g l d t x w h hz).mono fun e w' ⟨he, hw⟩ => ⟨he, hw ▸ h, hw ▸ World.grownBy.refl _ _⟩
  | false =>
    have e : nextN a m g l d t x = nextT a g l d t x := by rw [nextN, hz]; rfl
    rw [e]
    rw [validC, hz, Bool.false_or] at hv
    exact tick_any b a m g l d t x w h hz hv ht.1 ht.2 hx.1 hx.2

set_option maxHeartbeats 1000000 in
theorem hot1_any (w0 : World) (q5 q11 q12 b : Nat) (oa : Option Addr) (cap : Nat) (xs : List Int) (a m g l d t : Int) (i : Nat) (w : World) (hs : HotSt w0 w q5 q11 q12 b oa cap xs a m g l d t) (hx : Ints w0 oa xs) (hi : i < xs.length) (hil : i < 9223372036854775807) (hv : validC a m g l d = true) (ht : 0 ≤ t ∧ t ≤ 1000000000) (hxi : 0 ≤ xs.getD i 0 ∧ xs.getD i 0 ≤ 1000) :
    Calls Try.prog 23 #[.int .i64 i, .pointer (some ⟨q11, 0, none⟩), .pointer (some ⟨q5, 0, none⟩), .pointer (some ⟨q12, 0, none⟩)] w fun e w' =>
      e = .returned (.bool (!zeroC a m g l d && decide (m < nextN a m g l d t (xs.getD i 0)))) ∧ HotSt w0 w' q5 q11 q12 b oa cap xs a m g l d (nextN a m g l d t (xs.getD i 0)) := by
  obtain ⟨x, hx'⟩ : ∃ x, xs.getD i 0 = x := ⟨_, rfl⟩
  rw [hx'] at hxi ⊢
  obtain ⟨gb, off, rfl, hcx⟩ := hx i hi
  rw [hx'] at hcx
  clear hx'
  have HS := Lib.hid hs
  have HX := Lib.hid hcx
  have y1 : (0 : Int) ≤ (i : Int) := by omega
  have y2 : (i : Int) < (xs.length : Int) := by omega
  clear hs hcx hx
  obtain ⟨z, hz⟩ : ∃ z, nextN a m g l d t x = z := ⟨_, rfl⟩
  have HZ := Lib.hid hz
  rw [hz]
  clear hz
  go_enter Try.func23, Try.ntmps23
  go_wp2_with fail
  refine wp_region_B 5 (fun w'' => Below w.heap.size w w'') mixed (by kernel_rfl) (below_closed w) (Below.refl _ _).drew ?_
  simp only [List.take_succ_cons, List.take_zero, List.drop_succ_cons, List.drop_zero]
  intro KR hR
  have HR := Lib.hid hR
  clear hR
  have HCC := Lib.hid (show ∀ w'', Below w.heap.size w w'' → w''.cell? ⟨q5, 0, none⟩ = some (.slice (some ⟨gb, off, none⟩) xs.length cap) ∧ w''.cell? ⟨q11, 0, none⟩ = some (.func (.func 20) #[.pointer (some ⟨b, 0, none⟩)] #[]) ∧ w''.cell? ⟨gb, off + i, none⟩ = some (.int .i64 x) from
    fun w'' hw => ⟨(HS.out.later hw).c5, (HS.out.later hw).c11, cell_kept (below_step HS.out.bel hw) HX.out⟩)
  repeat (first
    | ((with_reducible refine wpB_move ?_ ?_); exact rfl; simp only [Act.put, List.setIfInBounds_toArray, List.set_cons_zero, List.set_cons_succ])
    | (apply wpB_val rfl
       · (intro w' hw'; obtain ⟨c0, c1, c2⟩ := HCC.out w' hw'; go_simp; with_reducible rfl)
       simp only [Act.put, List.setIfInBounds_toArray, List.set_cons_zero, List.set_cons_succ]))
  refine wpB_nil (HR.out _ (fun w2 hw2 => ?_))
  clear HR HCC
  have HS2 := Lib.hid (HS.out.later hw2)
  clear hw2 HS
  go_wp2_with fail
  refine (tickN_any b a m g l d t x _ HS2.out.warm hv ht hxi).mono ?_
  rintro e w3 ⟨rfl, hw3, hg3⟩
  rw [HZ.out] at hw3
  have HS3 := Lib.hid (HS2.out.step hw3 hg3)
  clear hw3 hg3 HS2
  have k12 := HS3.out.c12
  go_wp2_with fail
  refine (hot_any b a m g l d z _ HS3.out.warm).mono ?_
  rintro e w4 ⟨rfl, hb⟩
  replace HS3 := Lib.hid (HS3.out.later hb)
  clear hb k12
  go_wp2
  go_ret
  exact ⟨rfl, HS3.out⟩

set_option maxHeartbeats 1000000 in
theorem first_any (w0 : World) (q5 q11 q12 b : Nat) (oa : Option Addr) (cap : Nat) (xs : List Int) (a m g l d t : Int) (w : World) (hs : HotSt w0 w q5 q11 q12 b oa cap xs a m g l d t) (hx : Ints w0 oa xs) (hl : xs.length ≤ 1000000) (hv : validC a m g l d = true) (ht : 0 ≤ t ∧ t ≤ 1000000000) (hxi : ∀ i, i < xs.length → 0 ≤ xs.getD i 0 ∧ xs.getD i 0 ≤ 1000) :
    Calls Try.prog 22 #[.int .i64 xs.length, .func (.func 23) #[] #[.pointer (some ⟨q11, 0, none⟩), .pointer (some ⟨q5, 0, none⟩), .pointer (some ⟨q12, 0, none⟩)]] w fun e w' =>
      e = .returned (.int .i64 (hotAt a m g l d t 0 xs)) ∧ Below w0.heap.size w0 w' := by
  have HS := Lib.hid hs
  have HX := Lib.hid hx
  have HXI := Lib.hid hxi
  obtain ⟨V, hV⟩ : ∃ V, hotAt a m g l d t 0 xs = V := ⟨_, rfl⟩
  rw [hV]
  have HV := Lib.hid hV
  clear hs hx hxi hV
  go_enter Try.func22, Try.ntmps22
  go_wp2
  go_loopw [7] (fun i wr => ∃ (k : Nat) (u : Int), k ≤ xs.length ∧ i = .int .i64 k ∧ 0 ≤ u ∧ u ≤ 1000000000 ∧ hotAt a m g l d u k (xs.drop k) = V ∧ HotSt w0 wr q5 q11 q12 b oa cap xs a m g l d u) (fun i _ => xs.length - (intOf i).toNat)
  case atStart => exact ⟨0, t, Nat.zero_le _, rfl, ht.1, ht.2, HV.out, HS.out⟩
  case round =>
    obtain ⟨k, u, hk, rfl, hu0, hu1, hh, hst⟩ := hrel
    have HH := Lib.hid hh
    have HST := Lib.hid hst
    clear hh hst HS
    by_cases hlt : k < xs.length
    · have hxk := HXI.out k hlt
      have HD := Lib.hid (show hotAt a m g l d u k (xs.drop k) = if (!zeroC a m g l d && decide (m < nextN a m g l d u (xs.getD k 0))) = true then (k : Int) else hotAt a m g l d (nextN a m g l d u (xs.getD k 0)) ((k : Int) + 1) (xs.drop (k + 1)) by
        rw [List.drop_eq_getElem_cons hlt]
        simp [hotAt, hlt])
      obtain ⟨x, hx'⟩ : ∃ x, xs.getD k 0 = x := ⟨_, rfl⟩
      have HXK := Lib.hid hx'
      rw [hx'] at HD hxk
      clear hx'
      obtain ⟨c, hc⟩ : ∃ c, (!zeroC a m g l d && decide (m < nextN a m g l d u x)) = c := ⟨_, rfl⟩
      have HC := Lib.hid hc
      clear hc
      go_wp2_with fail
      refine (hot1_any w0 q5 q11 q12 b oa cap xs a m g l d u k _ HST.out HX.out hlt (by omega) hv ⟨hu0, hu1⟩ (by rw [HXK.out]; exact hxk)).mono ?_
      rw [HXK.out, HC.out]
      rintro e w1 ⟨rfl, hst⟩
      replace HST := Lib.hid hst
      clear hst
      cases c with
      | true =>
        obtain rfl : (k : Int) = V := by rw [← HH.out, HD.out, HC.out]; rfl
        go_wp2
        go_ret
        exact ⟨rfl, HST.out.bel⟩
      | false =>
        have hN := nextN_stay hv ⟨hu0, hu1⟩ hxk HC.out
        go_wp2
        go_roundw
        case rel => exact ⟨k + 1, _, by omega, by go_num, hN.1, hN.2, by rw [← HH.out, HD.out, HC.out]; simp, HST.out⟩
        case measure => simp [intOf]; omega
    · obtain rfl : k = xs.length := by omega
      obtain rfl : -1 = V := by rw [← HH.out, List.drop_length]; rfl
      go_wp2
      go_ret
      exact ⟨rfl, HST.out.bel⟩

end Go.Proofs.Ytmiedlgcdkggdaa
