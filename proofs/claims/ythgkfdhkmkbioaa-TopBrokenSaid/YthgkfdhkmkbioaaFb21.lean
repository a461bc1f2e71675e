/- Package flow: the node from which a step comes. -/
import Derived.Test.YthgkfdhkmkbioaaFa21
namespace Go.Proofs.Ythgkfdhkmkbioaa
open Go.RowKit
attribute [local go_sem] Oper.semAt_some

@[reducible] def stpC (x : Stp) : List Value := [.int .i64 (x.e : Nat), .int .i64 (x.to : Nat), .int .i64 x.room, .bool x.fw]
@[reducible] def stpV (x : Stp) : Value := .agg #[.int .i64 (x.e : Nat), .int .i64 (x.to : Nat), .int .i64 x.room, .bool x.fw]
set_option maxRecDepth 100000 in
set_option maxHeartbeats 4000000 in
theorem from_any (w : World) (N : Nat) (E : List Ed) (NB FB AB : Nat) (eo : Option Addr) (ec : Nat) (p : Nat) (x : Stp) (h : NetW w N E NB FB AB eo ec) (hp : Blk w p 80 #[.pointer (some ⟨NB, 0, none⟩)]) (hx : x.e < E.length) : Calls Try.prog 55 #[stpV x, .pointer (some ⟨p, 0, none⟩)] w (Ret (.int .i64 (frm E x : Nat)) w) := by
  obtain ⟨b, off, heo, _, c0, c1, c2⟩ := h.eds x.e hx
  have u1 : w.cell? ⟨NB, 1, none⟩ = some (.slice eo E.length ec) := h.nb.cell 1
  have up : w.cell? ⟨p, 0, none⟩ = some (.pointer (some ⟨NB, 0, none⟩)) := hp.cell 0
  have HF := Lib.hid (show frm E x = if x.fw = true then (getE E x.e).f else (getE E x.e).t from rfl)
  have hl := h.e512
  clear h hp
  obtain ⟨e, tt, room, fw⟩ := x
  dsimp only at c0 c1 c2 hx
  obtain ⟨Ef, hEf⟩ : ∃ a, (getE E e).f = a := ⟨_, rfl⟩
  obtain ⟨Et, hEt⟩ : ∃ a, (getE E e).t = a := ⟨_, rfl⟩
  obtain ⟨Z, hZ⟩ : ∃ a, frm E ⟨e, tt, room, fw⟩ = a := ⟨_, rfl⟩
  rw [hZ] at HF ⊢
  rw [hEf] at c0
  rw [hEt] at c1
  replace HF := Lib.hid (show Z = if fw = true then Ef else Et by rw [HF.out, hEf, hEt])
  clear hEf hEt hZ c2
  obtain ⟨L, hL⟩ : ∃ L, E.length = L := ⟨_, rfl⟩
  rw [hL] at hx u1 hl
  clear hL
  subst heo
  have y1 : (0 : Int) ≤ (e : Int) := by omega
  have y2 : (e : Int) < (L : Int) := by omega
  go_enter Try.func55, Try.ntmps55
  go_upto_region 1 with (fail)
  obtain ⟨W1, hW1⟩ : ∃ W, W = w.alloc (.cells #[.int .i64 (e : Nat), .int .i64 (tt : Nat), .int .i64 room, .bool fw] 107) := ⟨_, rfl⟩
  have HB := Lib.hid (show Below w.heap.size w W1 by rw [hW1]; exact below_alloc (Below.refl _ _) _)
  have HQ := Lib.hid (show Blk W1 w.heap.size 107 #[.int .i64 (e : Nat), .int .i64 (tt : Nat), .int .i64 room, .bool fw] by rw [hW1]; exact Blk.new _ _ _)
  rw [← hW1]
  clear hW1
  replace c0 := cell_kept HB.out c0
  replace c1 := cell_kept HB.out c1
  replace u1 := cell_kept HB.out u1
  replace up := cell_kept HB.out up
  have q0 : W1.cell? ⟨w.heap.size, 0, none⟩ = some (.int .i64 (e : Nat)) := HQ.out.cell 0
  have q3 : W1.cell? ⟨w.heap.size, 3, none⟩ = some (.bool fw) := HQ.out.cell 3
  cases fw with
  | true =>
    obtain rfl : Z = Ef := by rw [HF.out, if_pos rfl]
    clear HF
    go_wp2_with fail
    go_quiet (fail)
    go_wp2
    go_ret
    exact ⟨rfl, below_drewN HB.out _⟩
  | false =>
    obtain rfl : Z = Et := by rw [HF.out, if_neg (by decide)]
    clear HF
    go_wp2_with fail
    go_quiet (fail)
    go_wp2
    go_ret
    exact ⟨rfl, below_drewN HB.out _⟩
end Go.Proofs.Ythgkfdhkmkbioaa
