/- Chapter 41: signatures. -/
import Derived.Test.YtddbobphmakmmaaWa41
import Derived.Laws.Cover3
namespace Go.Proofs.Ytddbobphmakmmaa
open Go.RowKit
attribute [local go_sem] Oper.semAt_some

@[reducible] def numsV (r : Rc) : Value := .agg #[.int .i64 r.se, .int .i64 r.ch, .int .i64 r.ca, .int .i64 r.ho, .int .i64 r.hs, .int .i64 r.fi, .int .i64 r.la, .int .i64 r.en, .int .i64 r.am, .int .i64 0, .int .i64 0, .int .i64 0]

set_option maxHeartbeats 4000000 in
theorem numbers_any (r : Rc) (w : World) : Calls Try.prog 22 #[recV r] w (Ret (numsV r) w) := by
  go_enter Try.func22, Try.ntmps22
  go_wp2
  exact bodyPost_ret (v := numsV r) (by simp [results, Try.results22, go_sem]) rfl ⟨rfl, by go_grown⟩

/-- A record in a block of its own. -/
def RcB (w : World) (b : Nat) (r : Rc) : Prop := Blk w b 25 #[.int .i64 r.se, .int .i64 r.ch, .int .i64 r.ca, .int .i64 r.ho, .int .i64 r.hs, .int .i64 r.fi, .int .i64 r.la, .int .i64 r.en, .int .i64 r.am, .int .u64 (r.g0 : Nat), .int .u64 (r.g1 : Nat), .int .u64 (r.g2 : Nat), .int .u64 (r.g3 : Nat)]
theorem RcB.new (w : World) (r : Rc) : RcB (w.alloc (.cells #[.int .i64 r.se, .int .i64 r.ch, .int .i64 r.ca, .int .i64 r.ho, .int .i64 r.hs, .int .i64 r.fi, .int .i64 r.la, .int .i64 r.en, .int .i64 r.am, .int .u64 (r.g0 : Nat), .int .u64 (r.g1 : Nat), .int .u64 (r.g2 : Nat), .int .u64 (r.g3 : Nat)] 25)) w.heap.size r := Blk.new ..
theorem RcB.later {w w' : World} {b : Nat} {r : Rc} (h : RcB w b r) (hb : Below w.heap.size w w') : RcB w' b r := Blk.later h hb
theorem RcB.nums {w : World} {b : Nat} {r : Rc} (h : RcB w b r) : w.cell? ⟨b, 0, none⟩ = some (.int .i64 r.se) ∧ w.cell? ⟨b, 1, none⟩ = some (.int .i64 r.ch) ∧ w.cell? ⟨b, 2, none⟩ = some (.int .i64 r.ca) ∧ w.cell? ⟨b, 3, none⟩ = some (.int .i64 r.ho) ∧ w.cell? ⟨b, 4, none⟩ = some (.int .i64 r.hs) ∧ w.cell? ⟨b, 5, none⟩ = some (.int .i64 r.fi) ∧ w.cell? ⟨b, 6, none⟩ = some (.int .i64 r.la) ∧ w.cell? ⟨b, 7, none⟩ = some (.int .i64 r.en) ∧ w.cell? ⟨b, 8, none⟩ = some (.int .i64 r.am) :=
  ⟨h.cell 0, h.cell 1, h.cell 2, h.cell 3, h.cell 4, h.cell 5, h.cell 6, h.cell 7, h.cell 8⟩
theorem RcB.signs {w : World} {b : Nat} {r : Rc} (h : RcB w b r) : w.cell? ⟨b, 9, none⟩ = some (.int .u64 (r.g0 : Nat)) ∧ w.cell? ⟨b, 10, none⟩ = some (.int .u64 (r.g1 : Nat)) ∧ w.cell? ⟨b, 11, none⟩ = some (.int .u64 (r.g2 : Nat)) ∧ w.cell? ⟨b, 12, none⟩ = some (.int .u64 (r.g3 : Nat)) :=
  ⟨h.cell 9, h.cell 10, h.cell 11, h.cell 12⟩

theorem refLink4 (z : Nat) (a b c d : Int) (hz : z < 18446744073709551616) (w : World) : Calls Try.prog 25 #[.int .u64 (z : Nat), .agg #[.int .i64 a, .int .i64 b, .int .i64 c, .int .i64 d, .int .u64 0]] w (Ret (.int .u64 (link z (rd4 a b c d) : Nat)) w) :=
  refLink_any z (rd4 a b c d) hz w
theorem Link4 (z : Nat) (a b c d : Int) (hz : z < 18446744073709551616) (w : World) : Calls Try.prog 30 #[.int .u64 (z : Nat), .agg #[.int .i64 a, .int .i64 b, .int .i64 c, .int .i64 d, .int .u64 0]] w (Ret (.int .u64 (link z (rd4 a b c d) : Nat)) w) :=
  Link_any z (rd4 a b c d) hz w

set_option maxHeartbeats 4000000 in
theorem rrefSign_any (r : Rc) (k : Nat) (hk : k < 18446744073709551616) (w : World) : Calls Try.prog 13 #[recV r, .int .u64 (k : Nat)] w (Ret (.int .u64 (sig r k : Nat)) w) := by
  unfold sig
  have h1 := link_lt (y := rd4 r.se r.ch r.ca r.ho) hk
  obtain ⟨k1, e1⟩ : ∃ k1, link k (rd4 r.se r.ch r.ca r.ho) = k1 := ⟨_, rfl⟩
  have K0 := Lib.hid (fun w' => refLink4 k r.se r.ch r.ca r.ho hk w')
  rw [e1] at h1 K0 ⊢
  clear e1
  have h2 := link_lt (y := rd4 r.hs r.fi r.la r.en) h1
  obtain ⟨k2, e2⟩ : ∃ k2, link k1 (rd4 r.hs r.fi r.la r.en) = k2 := ⟨_, rfl⟩
  have K1 := Lib.hid (fun w' => refLink4 k1 r.hs r.fi r.la r.en h1 w')
  rw [e2] at h2 K1 ⊢
  clear e2
  have K2 := Lib.hid (fun w' => refLink4 k2 r.am 0 0 0 h2 w')
  obtain ⟨k3, e3⟩ : ∃ k3, link k2 (rd4 r.am 0 0 0) = k3 := ⟨_, rfl⟩
  rw [e3] at K2 ⊢
  clear e3
  go_enter Try.func13, Try.ntmps13
  go_wp2_with fail
  refine (K0.out _).mono ?_
  rintro e w1 ⟨rfl, hb1⟩
  have HX := Lib.hid ((RcB.new w r).later hb1)
  have HB := Lib.hid (below_step (below_alloc (Below.refl _ _) _) hb1)
  clear hb1
  obtain ⟨c0, c1, c2, c3, c4, c5, c6, c7, c8⟩ := HX.out.nums
  go_wp2_with fail
  clear c0 c1 c2 c3 c4 c5 c6 c7 c8
  refine (K1.out _).mono ?_
  rintro e w2 ⟨rfl, hb2⟩
  have HX2 := Lib.hid (HX.out.later hb2)
  have HB2 := Lib.hid (below_step HB.out hb2)
  clear hb2
  obtain ⟨c0, c1, c2, c3, c4, c5, c6, c7, c8⟩ := HX2.out.nums
  go_wp2_with fail
  clear c0 c1 c2 c3 c4 c5 c6 c7 c8
  refine (K2.out _).mono ?_
  rintro e w3 ⟨rfl, hb3⟩
  have HB3 := Lib.hid (below_step HB2.out hb3)
  clear hb3
  go_wp2
  go_ret
  exact ⟨rfl, HB3.out⟩

/-- The twelve numbers in a block. -/
def NmB (w : World) (b : Nat) (r : Rc) : Prop := Blk w b 46 #[.int .i64 r.se, .int .i64 r.ch, .int .i64 r.ca, .int .i64 r.ho, .int .i64 r.hs, .int .i64 r.fi, .int .i64 r.la, .int .i64 r.en, .int .i64 r.am, .int .i64 0, .int .i64 0, .int .i64 0]
theorem NmB.later {w w' : World} {b : Nat} {r : Rc} (h : NmB w b r) (hb : Below w.heap.size w w') : NmB w' b r := Blk.later h hb
theorem NmB.nums {w : World} {b : Nat} {r : Rc} (h : NmB w b r) : w.cell? ⟨b, 0, none⟩ = some (.int .i64 r.se) ∧ w.cell? ⟨b, 1, none⟩ = some (.int .i64 r.ch) ∧ w.cell? ⟨b, 2, none⟩ = some (.int .i64 r.ca) ∧ w.cell? ⟨b, 3, none⟩ = some (.int .i64 r.ho) ∧ w.cell? ⟨b, 4, none⟩ = some (.int .i64 r.hs) ∧ w.cell? ⟨b, 5, none⟩ = some (.int .i64 r.fi) ∧ w.cell? ⟨b, 6, none⟩ = some (.int .i64 r.la) ∧ w.cell? ⟨b, 7, none⟩ = some (.int .i64 r.en) ∧ w.cell? ⟨b, 8, none⟩ = some (.int .i64 r.am) ∧ w.cell? ⟨b, 9, none⟩ = some (.int .i64 0) ∧ w.cell? ⟨b, 10, none⟩ = some (.int .i64 0) ∧ w.cell? ⟨b, 11, none⟩ = some (.int .i64 0) :=
  ⟨h.cell 0, h.cell 1, h.cell 2, h.cell 3, h.cell 4, h.cell 5, h.cell 6, h.cell 7, h.cell 8, h.cell 9, h.cell 10, h.cell 11⟩

set_option maxHeartbeats 4000000 in
theorem part0_any (r : Rc) (g : Nat) (w : World) (h : NmB w g r) : Calls Try.prog 23 #[.int .i64 0, .pointer (some ⟨g, 0, none⟩)] w (Ret (.agg #[.int .i64 r.se, .int .i64 r.ch, .int .i64 r.ca, .int .i64 r.ho]) w) := by
  have hg := h.lt
  obtain ⟨c0, c1, c2, c3, _, _, _, _, _, _, _, _⟩ := h.nums
  have hat : ∀ w, (Instr.arrayAt 48 (.slice (some ⟨g, 0, none⟩) 4 12)).run Try.prog w = .ok (.pointer (some ⟨g, 0, none⟩)) w := fun w => run_arrayAt w 48 _ 4 _ 4 12 Try.underlying48 (by decide)
  clear h
  go_enter Try.func23, Try.ntmps23
  go_wp2
  exact bodyPost_ret (v := .agg #[.int .i64 r.se, .int .i64 r.ch, .int .i64 r.ca, .int .i64 r.ho]) (by simp [results, Try.results23, go_sem]) rfl ⟨rfl, by go_grown⟩

set_option maxHeartbeats 4000000 in
theorem part1_any (r : Rc) (g : Nat) (w : World) (h : NmB w g r) : Calls Try.prog 23 #[.int .i64 1, .pointer (some ⟨g, 0, none⟩)] w (Ret (.agg #[.int .i64 r.hs, .int .i64 r.fi, .int .i64 r.la, .int .i64 r.en]) w) := by
  have hg := h.lt
  obtain ⟨_, _, _, _, c0, c1, c2, c3, _, _, _, _⟩ := h.nums
  have hat : ∀ w, (Instr.arrayAt 48 (.slice (some ⟨g, 4, none⟩) 4 8)).run Try.prog w = .ok (.pointer (some ⟨g, 4, none⟩)) w := fun w => run_arrayAt w 48 _ 4 _ 4 8 Try.underlying48 (by decide)
  clear h
  go_enter Try.func23, Try.ntmps23
  go_wp2
  exact bodyPost_ret (v := .agg #[.int .i64 r.hs, .int .i64 r.fi, .int .i64 r.la, .int .i64 r.en]) (by simp [results, Try.results23, go_sem]) rfl ⟨rfl, by go_grown⟩

set_option maxHeartbeats 4000000 in
theorem part2_any (r : Rc) (g : Nat) (w : World) (h : NmB w g r) : Calls Try.prog 23 #[.int .i64 2, .pointer (some ⟨g, 0, none⟩)] w (Ret (.agg #[.int .i64 r.am, .int .i64 0, .int .i64 0, .int .i64 0]) w) := by
  have hg := h.lt
  obtain ⟨_, _, _, _, _, _, _, _, c0, c1, c2, c3⟩ := h.nums
  have hat : ∀ w, (Instr.arrayAt 48 (.slice (some ⟨g, 8, none⟩) 4 4)).run Try.prog w = .ok (.pointer (some ⟨g, 8, none⟩)) w := fun w => run_arrayAt w 48 _ 4 _ 4 4 Try.underlying48 (by decide)
  clear h
  go_enter Try.func23, Try.ntmps23
  go_wp2
  exact bodyPost_ret (v := .agg #[.int .i64 r.am, .int .i64 0, .int .i64 0, .int .i64 0]) (by simp [results, Try.results23, go_sem]) rfl ⟨rfl, by go_grown⟩

/-- Three parts of four numbers, in a slice's block. -/
def PtB (w : World) (b : Nat) (r : Rc) : Prop := Blk w b 48 #[.int .i64 r.se, .int .i64 r.ch, .int .i64 r.ca, .int .i64 r.ho, .int .i64 r.hs, .int .i64 r.fi, .int .i64 r.la, .int .i64 r.en, .int .i64 r.am, .int .i64 0, .int .i64 0, .int .i64 0]
theorem PtB.later {w w' : World} {b : Nat} {r : Rc} (h : PtB w b r) (hb : Below w.heap.size w w') : PtB w' b r := Blk.later h hb
theorem PtB.nums {w : World} {b : Nat} {r : Rc} (h : PtB w b r) : w.cell? ⟨b, 0, none⟩ = some (.int .i64 r.se) ∧ w.cell? ⟨b, 1, none⟩ = some (.int .i64 r.ch) ∧ w.cell? ⟨b, 2, none⟩ = some (.int .i64 r.ca) ∧ w.cell? ⟨b, 3, none⟩ = some (.int .i64 r.ho) ∧ w.cell? ⟨b, 4, none⟩ = some (.int .i64 r.hs) ∧ w.cell? ⟨b, 5, none⟩ = some (.int .i64 r.fi) ∧ w.cell? ⟨b, 6, none⟩ = some (.int .i64 r.la) ∧ w.cell? ⟨b, 7, none⟩ = some (.int .i64 r.en) ∧ w.cell? ⟨b, 8, none⟩ = some (.int .i64 r.am) ∧ w.cell? ⟨b, 9, none⟩ = some (.int .i64 0) ∧ w.cell? ⟨b, 10, none⟩ = some (.int .i64 0) ∧ w.cell? ⟨b, 11, none⟩ = some (.int .i64 0) :=
  ⟨h.cell 0, h.cell 1, h.cell 2, h.cell 3, h.cell 4, h.cell 5, h.cell 6, h.cell 7, h.cell 8, h.cell 9, h.cell 10, h.cell 11⟩

/-- The state after the first k parts. -/
def sigAt (r : Rc) (z : Nat) : Nat → Nat
  | 0 => z
  | 1 => link z (rd4 r.se r.ch r.ca r.ho)
  | 2 => link (link z (rd4 r.se r.ch r.ca r.ho)) (rd4 r.hs r.fi r.la r.en)
  | _ => sig r z
theorem sigAt_lt (r : Rc) {z : Nat} (hz : z < 18446744073709551616) : ∀ k, sigAt r z k < 18446744073709551616
  | 0 => hz
  | 1 => link_lt hz
  | 2 => link_lt (link_lt hz)
  | _ + 3 => sig_lt hz

set_option maxHeartbeats 4000000 in
theorem sign_any (r : Rc) (z g : Nat) (hz : z < 18446744073709551616) (w : World) (h : PtB w g r) : Calls Try.prog 24 #[.int .u64 (z : Nat), .slice (some ⟨g, 0, none⟩) 3 3] w (Ret (.int .u64 (sig r z : Nat)) w) := by
  have HP := Lib.hid h
  clear h
  go_enter Try.func24, Try.ntmps24
  go_wp2
  go_loopw [0, 9] (fun u i wr => ∃ k : Nat, ∃ y : Nat, k ≤ 3 ∧ i = .int .i64 k ∧ u = .int .u64 (y : Nat) ∧ y = sigAt r z k ∧ Below w.heap.size w wr) (fun _ i _ => 3 - (intOf i).toNat)
  case atStart => exact ⟨0, z, by omega, rfl, rfl, rfl, Below.refl _ _⟩
  case round =>
    obtain ⟨k, y, hk, rfl, rfl, hy, hb⟩ := hrel
    have hyl : y < 18446744073709551616 := by rw [hy]; exact sigAt_lt r hz k
    have HY := Lib.hid hy
    have HB := Lib.hid hb
    have HP1 := Lib.hid (HP.out.later hb)
    clear hy hb
    obtain ⟨c0, c1, c2, c3, c4, c5, c6, c7, c8, c9, c10, c11⟩ := HP1.out.nums
    rcases (by omega : k = 0 ∨ k = 1 ∨ k = 2 ∨ k = 3) with rfl | rfl | rfl | rfl
    · rw [show ((0 : Nat) : Int) = 0 from rfl]
      have HS := Lib.hid (show link y (rd4 r.se r.ch r.ca r.ho) = sigAt r z 1 by rw [HY.out]; rfl)
      go_wp2_with fail
      clear c0 c1 c2 c3 c4 c5 c6 c7 c8 c9 c10 c11
      refine (Link4 y r.se r.ch r.ca r.ho hyl _).mono ?_
      rintro e w2 ⟨rfl, hb2⟩
      have HB2 := Lib.hid (below_step (below_alloc HB.out _) hb2)
      clear hb2
      obtain ⟨Y, hY⟩ : ∃ Y, link y (rd4 r.se r.ch r.ca r.ho) = Y := ⟨_, rfl⟩
      rw [hY] at HS ⊢
      clear hY
      go_wp2
      go_roundw
      case rel => exact ⟨1, Y, by omega, rfl, rfl, HS.out, HB2.out⟩
      case measure => simp [intOf]
    · rw [show ((1 : Nat) : Int) = 1 from rfl]
      have HS := Lib.hid (show link y (rd4 r.hs r.fi r.la r.en) = sigAt r z 2 by rw [HY.out]; rfl)
      go_wp2_with fail
      clear c0 c1 c2 c3 c4 c5 c6 c7 c8 c9 c10 c11
      refine (Link4 y r.hs r.fi r.la r.en hyl _).mono ?_
      rintro e w2 ⟨rfl, hb2⟩
      have HB2 := Lib.hid (below_step (below_alloc HB.out _) hb2)
      clear hb2
      obtain ⟨Y, hY⟩ : ∃ Y, link y (rd4 r.hs r.fi r.la r.en) = Y := ⟨_, rfl⟩
      rw [hY] at HS ⊢
      clear hY
      go_wp2
      go_roundw
      case rel => exact ⟨2, Y, by omega, rfl, rfl, HS.out, HB2.out⟩
      case measure => simp [intOf]
    · rw [show ((2 : Nat) : Int) = 2 from rfl]
      have HS := Lib.hid (show link y (rd4 r.am 0 0 0) = sigAt r z 3 by rw [HY.out]; rfl)
      go_wp2_with fail
      clear c0 c1 c2 c3 c4 c5 c6 c7 c8 c9 c10 c11
      refine (Link4 y r.am 0 0 0 hyl _).mono ?_
      rintro e w2 ⟨rfl, hb2⟩
      have HB2 := Lib.hid (below_step (below_alloc HB.out _) hb2)
      clear hb2
      obtain ⟨Y, hY⟩ : ∃ Y, link y (rd4 r.am 0 0 0) = Y := ⟨_, rfl⟩
      rw [hY] at HS ⊢
      clear hY
      go_wp2
      go_roundw
      case rel => exact ⟨3, Y, by omega, rfl, rfl, HS.out, HB2.out⟩
      case measure => simp [intOf]
    · rw [show ((3 : Nat) : Int) = 3 from rfl]
      have HS := Lib.hid (show y = sig r z from HY.out)
      go_wp2
      go_ret
      exact ⟨by rw [HS.out]; rfl, HB.out⟩

set_option maxHeartbeats 4000000 in
theorem rSign_any (r : Rc) (k : Nat) (hk : k < 18446744073709551616) (w : World) : Calls Try.prog 12 #[recV r, .int .u64 (k : Nat)] w (Ret (.int .u64 (sig r k : Nat)) w) := by
  go_enter Try.func12, Try.ntmps12
  go_wp2_with fail
  refine (numbers_any r _).mono ?_
  rintro e w1 ⟨rfl, hb1⟩
  have HB := Lib.hid (below_step (below_alloc (Below.refl _ _) _) hb1)
  clear hb1
  go_wp2_with fail
  have HN := Lib.hid (show NmB (w1.alloc (.cells #[.int .i64 r.se, .int .i64 r.ch, .int .i64 r.ca, .int .i64 r.ho, .int .i64 r.hs, .int .i64 r.fi, .int .i64 r.la, .int .i64 r.en, .int .i64 r.am, .int .i64 0, .int .i64 0, .int .i64 0] 46)) w1.heap.size r from Blk.new ..)
  refine (part0_any r _ _ HN.out).mono ?_
  rintro e w2 ⟨rfl, hb2⟩
  have HB2 := Lib.hid (below_step (below_alloc HB.out _) hb2)
  have HN2 := Lib.hid (HN.out.later hb2)
  clear hb2 HN
  go_wp2_with fail
  refine (part1_any r _ _ HN2.out).mono ?_
  rintro e w3 ⟨rfl, hb3⟩
  have HB3 := Lib.hid (below_step HB2.out hb3)
  have HN3 := Lib.hid (HN2.out.later hb3)
  clear hb3
  go_wp2_with fail
  refine (part2_any r _ _ HN3.out).mono ?_
  rintro e w4 ⟨rfl, hb4⟩
  have HB4 := Lib.hid (below_step HB3.out hb4)
  clear hb4
  go_wp2_with fail
  refine (sign_any r k w4.heap.size hk _ (Blk.new ..)).mono ?_
  rintro e w5 ⟨rfl, hb5⟩
  have HB5 := Lib.hid (below_step (below_alloc HB4.out _) hb5)
  clear hb5
  go_wp2
  go_ret
  exact ⟨rfl, HB5.out⟩
end Go.Proofs.Ytddbobphmakmmaa
