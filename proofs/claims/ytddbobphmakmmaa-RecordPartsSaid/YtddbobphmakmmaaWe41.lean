/- Chapter 41: head. -/
import Derived.Test.YtddbobphmakmmaaWd41
import Derived.Test.YtddbobphmakmmaaRowN
namespace Go.Proofs.Ytddbobphmakmmaa
open Go.RowKit
attribute [local go_sem] Oper.semAt_some

theorem Row.rdsN {w2 wr : World} {g cap n : Nat} {l : List Rd} (h : Row w2 wr 45 5 (.slice (some ⟨g, 0, none⟩) n cap) n (flat l)) (hn : l.length = n) : Rds wr (some ⟨g, 0, none⟩) l := by
  refine rds_flat.2 (fun j u hj => ?_)
  have hlt : j < n * 5 := by
    have := (List.getElem?_eq_some_iff.1 hj).1
    rwa [flat_length, hn] at this
  rw [Nat.zero_add, h.cellAt j hlt]
  exact hj

def hl : List Rd := [⟨1, 1, 0, 100, 0, by decide⟩, ⟨1, 2, 1, 250, 0, by decide⟩, ⟨1, 3, 2, 400, 0, by decide⟩]
def hr1 : Rc := ⟨7, 2, 5, 1, 0, 1, 3, 0, 900, 0, 0, 0, 0⟩
def hr2 : Rc := ⟨7, 2, 5, 1, 0, 1, 4, 0, 900, 0, 0, 0, 0⟩
def hk : K4 := ⟨1, 2, 3, 4, by decide, by decide, by decide, by decide⟩
def hk9 : K4 := ⟨1, 2, 9, 4, by decide, by decide, by decide, by decide⟩
def hk0 : K4 := ⟨0, 0, 0, 0, by decide, by decide, by decide, by decide⟩
def hc : Rc := clRec hr1 hl hk
def hc' : Rc := { clRec hr1 hl hk with am := 901 }
theorem hc_ok : clOk hr1 hl = true := by decide +kernel
theorem hc_no : clOk hr2 hl = false := by decide +kernel
theorem hc_en : (clRec hr1 hl hk).en = 300 := by decide +kernel
theorem hc_am : (clRec hr1 hl hk).am = 900 := by decide +kernel
theorem hc_chk : chkC (clRec hr1 hl hk) hk = -1 := by decide +kernel
theorem hc_chk9 : chkC (clRec hr1 hl hk) hk9 = 2 := by decide +kernel
theorem hc_chk' : chkC { clRec hr1 hl hk with am := 901 } hk = 0 := by decide +kernel
theorem hc_chk0 : chkC zeroRc hk0 = 0 := by decide +kernel

theorem Rds.other {w : World} {g : Nat} {l : List Rd} (h : Rds w (some ⟨g, 0, none⟩) l) {p : Addr} (hp : g ≠ p.block) (u : Value) : Rds (w.setCell p u) (some ⟨g, 0, none⟩) l := fun i hi => by
  obtain ⟨b, off, hbo, hx⟩ := h i hi
  cases hbo
  have e : ∀ q, (w.setCell p u).cell? ⟨g, q, none⟩ = w.cell? ⟨g, q, none⟩ := fun q => World.cell?_of_block (a := ⟨g, q, none⟩) (Below.heap_setCell w p u g hp)
  refine ⟨g, 0, rfl, ?_⟩
  unfold RdAt at hx ⊢
  simp only [e]
  exact hx

theorem clV_ok {r : Rc} {l : List Rd} {k : K4} (h : clOk r l = true) : clV r l k = .tuple #[recV (clRec r l k), .int .i64 0] := by
  unfold clV
  rw [h]
  rfl

set_option maxRecDepth 100000 in
set_option maxHeartbeats 4000000 in
theorem head_any (w : World) : Calls Try.prog 9 #[] w (Ret (.bool true) w) := by
  go_enter Try.func9, Try.ntmps9
  go_wp2
  obtain ⟨w1, hw1⟩ : ∃ w1, w.alloc (.cells #[.int .i64 100, .int .i64 250, .int .i64 400] 3) = w1 := ⟨_, rfl⟩
  have HI := Lib.hid (show Blk w1 w.heap.size 3 #[.int .i64 100, .int .i64 250, .int .i64 400] by rw [← hw1]; exact Blk.new ..)
  have HB := Lib.hid (show Below w.heap.size w w1 by rw [← hw1]; exact below_alloc (Below.refl _ _) _)
  rw [hw1]
  clear hw1
  go_loopw [1, 13] (fun v i wr => ∃ k : Nat, k ≤ 3 ∧ i = .int .i64 k ∧ Row w1 wr 45 5 v k (flat (hl.take k))) (fun _ i _ => 3 - (intOf i).toNat)
  case atStart => exact ⟨0, by omega, rfl, Row.nil ..⟩
  case round =>
    obtain ⟨k, hkn, rfl, hrow⟩ := hrel
    have HRW := Lib.hid hrow
    have HI2 := Lib.hid (HI.out.later hrow.below)
    clear hrow
    have i0 : wr.cell? ⟨w.heap.size, 0, none⟩ = some (.int .i64 100) := HI2.out.cell 0
    have i1 : wr.cell? ⟨w.heap.size, 1, none⟩ = some (.int .i64 250) := HI2.out.cell 1
    have i2 : wr.cell? ⟨w.heap.size, 2, none⟩ = some (.int .i64 400) := HI2.out.cell 2
    rcases (by omega : k = 0 ∨ k = 1 ∨ k = 2 ∨ k = 3) with rfl | rfl | rfl | rfl
    · rw [show ((0 : Nat) : Int) = 0 from rfl]
      have HN := Lib.hid (show 0 + 1 ≤ 1000000000 by omega)
      have HO1 := Lib.hid (show ∀ u ∈ [Value.int .i64 1, .int .i64 1, .int .i64 0, .int .i64 100, .int .u64 0], u.oneCell' = true from fun u hu => by simp at hu; rcases hu with rfl | rfl | rfl | rfl | rfl <;> rfl)
      go_wp2_with (at_builtin; refine wp_append1 (news := [.int .i64 1, .int .i64 1, .int .i64 0, .int .i64 100, .int .u64 0]) elemRd HRW.out HN.out (by decide) rfl HO1.out rfl _ _ rfl rfl rfl ?_)
      clear i0 i1 i2
      intro v2 w4 hrow2
      have HR2 := Lib.hid hrow2
      clear hrow2
      go_wp2
      go_roundw
      case rel => exact ⟨1, by omega, rfl, HR2.out⟩
      case measure => simp [intOf]
    · rw [show ((1 : Nat) : Int) = 1 from rfl]
      have HN := Lib.hid (show 1 + 1 ≤ 1000000000 by omega)
      have HO1 := Lib.hid (show ∀ u ∈ [Value.int .i64 1, .int .i64 2, .int .i64 1, .int .i64 250, .int .u64 0], u.oneCell' = true from fun u hu => by simp at hu; rcases hu with rfl | rfl | rfl | rfl | rfl <;> rfl)
      go_wp2_with (at_builtin; refine wp_append1 (news := [.int .i64 1, .int .i64 2, .int .i64 1, .int .i64 250, .int .u64 0]) elemRd HRW.out HN.out (by decide) rfl HO1.out rfl _ _ rfl rfl rfl ?_)
      clear i0 i1 i2
      intro v2 w4 hrow2
      have HR2 := Lib.hid hrow2
      clear hrow2
      go_wp2
      go_roundw
      case rel => exact ⟨2, by omega, rfl, HR2.out⟩
      case measure => simp [intOf]
    · rw [show ((2 : Nat) : Int) = 2 from rfl]
      have HN := Lib.hid (show 2 + 1 ≤ 1000000000 by omega)
      have HO1 := Lib.hid (show ∀ u ∈ [Value.int .i64 1, .int .i64 3, .int .i64 2, .int .i64 400, .int .u64 0], u.oneCell' = true from fun u hu => by simp at hu; rcases hu with rfl | rfl | rfl | rfl | rfl <;> rfl)
      go_wp2_with (at_builtin; refine wp_append1 (news := [.int .i64 1, .int .i64 3, .int .i64 2, .int .i64 400, .int .u64 0]) elemRd HRW.out HN.out (by decide) rfl HO1.out rfl _ _ rfl rfl rfl ?_)
      clear i0 i1 i2
      intro v2 w4 hrow2
      have HR2 := Lib.hid hrow2
      clear hrow2
      go_wp2
      go_roundw
      case rel => exact ⟨3, by omega, rfl, HR2.out⟩
      case measure => simp [intOf]
    · rw [show ((3 : Nat) : Int) = 3 from rfl]
      clear i0 i1 i2
      obtain ⟨g, cp, rfl, hg, _⟩ := HRW.out.some_of (by omega)
      have HL := Lib.hid (HRW.out.rdsN (l := hl) rfl)
      have HB2 := Lib.hid (below_step HB.out HRW.out.below)
      clear HRW HI2
      have HCL := Lib.hid (fun W (h : Below wr.heap.size wr W) => (show Calls Try.prog 10 #[.agg #[.int .i64 7, .int .i64 2, .int .i64 5, .int .i64 1, .int .i64 0, .int .i64 1, .int .i64 3, .int .i64 0, .int .i64 900, .int .u64 0, .int .u64 0, .int .u64 0, .int .u64 0], .slice (some ⟨g, 0, none⟩) 3 cp, .agg #[.int .u64 1, .int .u64 2, .int .u64 3, .int .u64 4]] W (Ret (clV hr1 hl hk) W) from rClose_any hr1 (some ⟨g, 0, none⟩) cp hl hk W (HL.out.later h) (by decide)))
      have HCL2 := Lib.hid (fun W (h : Rds W (some ⟨g, 0, none⟩) hl) => (show Calls Try.prog 10 #[.agg #[.int .i64 7, .int .i64 2, .int .i64 5, .int .i64 1, .int .i64 0, .int .i64 1, .int .i64 4, .int .i64 0, .int .i64 900, .int .u64 0, .int .u64 0, .int .u64 0, .int .u64 0], .slice (some ⟨g, 0, none⟩) 3 cp, .agg #[.int .u64 1, .int .u64 2, .int .u64 3, .int .u64 4]] W (Ret (clV hr2 hl hk) W) from rClose_any hr2 (some ⟨g, 0, none⟩) cp hl hk W h (by decide)))
      have HK1 := Lib.hid (fun W => (show Calls Try.prog 14 #[recV (clRec hr1 hl hk), .agg #[.int .u64 1, .int .u64 2, .int .u64 3, .int .u64 4]] W (Ret (.int .i64 (chkC (clRec hr1 hl hk) hk)) W) from rCheck_any (clRec hr1 hl hk) hk W))
      have HK2 := Lib.hid (fun W => (show Calls Try.prog 14 #[recV (clRec hr1 hl hk), .agg #[.int .u64 1, .int .u64 2, .int .u64 9, .int .u64 4]] W (Ret (.int .i64 (chkC (clRec hr1 hl hk) hk9)) W) from rCheck_any (clRec hr1 hl hk) hk9 W))
      have HK3 := Lib.hid (fun W => (show Calls Try.prog 14 #[recV { clRec hr1 hl hk with am := 901 }, .agg #[.int .u64 1, .int .u64 2, .int .u64 3, .int .u64 4]] W (Ret (.int .i64 (chkC { clRec hr1 hl hk with am := 901 } hk)) W) from rCheck_any { clRec hr1 hl hk with am := 901 } hk W))
      have HK4 := Lib.hid (fun W => (show Calls Try.prog 14 #[.agg #[.int .i64 0, .int .i64 0, .int .i64 0, .int .i64 0, .int .i64 0, .int .i64 0, .int .i64 0, .int .i64 0, .int .i64 0, .int .u64 0, .int .u64 0, .int .u64 0, .int .u64 0], .agg #[.int .u64 0, .int .u64 0, .int .u64 0, .int .u64 0]] W (Ret (.int .i64 (chkC zeroRc hk0)) W) from rCheck_any zeroRc hk0 W))
      rw [clV_ok hc_ok] at HCL
      rw [clV_no hc_no] at HCL2
      rw [hc_chk] at HK1
      rw [hc_chk9] at HK2
      rw [hc_chk'] at HK3
      rw [hc_chk0] at HK4
      have HEN := Lib.hid hc_en
      have HAM := Lib.hid hc_am
      obtain ⟨C, hC⟩ : ∃ C, clRec hr1 hl hk = C := ⟨_, rfl⟩
      rw [hC] at HCL HK1 HK2 HK3 HEN HAM
      clear hC
      go_wp2_with fail
      refine (HCL.out _ (below_alloc (Below.refl _ _) _)).mono ?_
      rintro e w2 ⟨rfl, hb2⟩
      have HR2 := Lib.hid ((RcB.new wr hr1).later hb2)
      have HL2 := Lib.hid (HL.out.later (below_step (below_alloc (Below.refl _ _) _) hb2))
      have HB3 := Lib.hid (below_step (below_alloc HB2.out _) hb2)
      have hsz : wr.heap.size < w2.heap.size := by have := hb2.size; rw [World.size_alloc] at this; omega
      have hg2 : g ≠ wr.heap.size := by
        obtain ⟨b', off', hbo, hx⟩ := HL.out 0 (by decide)
        cases hbo
        have := cell_lt hx.1
        simp at this
        omega
      clear hb2
      have f6 := HR2.out.frozen 6
      have q0 : w2.cell? ⟨wr.heap.size, 0, none⟩ = some (.int .i64 7) := HR2.out.cell 0
      have q1 : w2.cell? ⟨wr.heap.size, 1, none⟩ = some (.int .i64 2) := HR2.out.cell 1
      have q2 : w2.cell? ⟨wr.heap.size, 2, none⟩ = some (.int .i64 5) := HR2.out.cell 2
      have q3 : w2.cell? ⟨wr.heap.size, 3, none⟩ = some (.int .i64 1) := HR2.out.cell 3
      have q4 : w2.cell? ⟨wr.heap.size, 4, none⟩ = some (.int .i64 0) := HR2.out.cell 4
      have q5 : w2.cell? ⟨wr.heap.size, 5, none⟩ = some (.int .i64 1) := HR2.out.cell 5
      have q6 : w2.cell? ⟨wr.heap.size, 6, none⟩ = some (.int .i64 3) := HR2.out.cell 6
      have q7 : w2.cell? ⟨wr.heap.size, 7, none⟩ = some (.int .i64 0) := HR2.out.cell 7
      have q8 : w2.cell? ⟨wr.heap.size, 8, none⟩ = some (.int .i64 900) := HR2.out.cell 8
      have q9 : w2.cell? ⟨wr.heap.size, 9, none⟩ = some (.int .u64 0) := HR2.out.cell 9
      have q10 : w2.cell? ⟨wr.heap.size, 10, none⟩ = some (.int .u64 0) := HR2.out.cell 10
      have q11 : w2.cell? ⟨wr.heap.size, 11, none⟩ = some (.int .u64 0) := HR2.out.cell 11
      have q12 : w2.cell? ⟨wr.heap.size, 12, none⟩ = some (.int .u64 0) := HR2.out.cell 12
      go_wp2_with fail
      clear q0 q1 q2 q3 q4 q5 q6 q7 q8 q9 q10 q11 q12 f6
      obtain ⟨X, hX⟩ : ∃ X, w2.setCell ⟨wr.heap.size, 6, none⟩ (.int .i64 4) = X := ⟨_, rfl⟩
      have hXs : w2.heap.size = X.heap.size := by rw [← hX]; simp
      have HXL := Lib.hid (show Rds X (some ⟨g, 0, none⟩) hl by rw [← hX]; exact HL2.out.other hg2 _)
      have HXB := Lib.hid (show Below w.heap.size w X by rw [← hX]; exact HB3.out.setCell (by have := HB2.out.size; exact this) _)
      rw [hX, hXs]
      clear hX HL2 HB3 HR2 hsz
      have HC1 := Lib.hid ((RcB.new X C).later (below_alloc (Below.refl _ _) (.cells #[.int .i64 C.se, .int .i64 C.ch, .int .i64 C.ca, .int .i64 C.ho, .int .i64 C.hs, .int .i64 C.fi, .int .i64 C.la, .int .i64 C.en, .int .i64 901, .int .u64 (C.g0 : Nat), .int .u64 (C.g1 : Nat), .int .u64 (C.g2 : Nat), .int .u64 (C.g3 : Nat)] 25)))
      have HC2 := Lib.hid (show RcB ((X.alloc (.cells #[.int .i64 C.se, .int .i64 C.ch, .int .i64 C.ca, .int .i64 C.ho, .int .i64 C.hs, .int .i64 C.fi, .int .i64 C.la, .int .i64 C.en, .int .i64 C.am, .int .u64 (C.g0 : Nat), .int .u64 (C.g1 : Nat), .int .u64 (C.g2 : Nat), .int .u64 (C.g3 : Nat)] 25)).alloc (.cells #[.int .i64 C.se, .int .i64 C.ch, .int .i64 C.ca, .int .i64 C.ho, .int .i64 C.hs, .int .i64 C.fi, .int .i64 C.la, .int .i64 C.en, .int .i64 901, .int .u64 (C.g0 : Nat), .int .u64 (C.g1 : Nat), .int .u64 (C.g2 : Nat), .int .u64 (C.g3 : Nat)] 25)) (X.heap.size + 1) { C with am := 901 } by
        have := RcB.new (X.alloc (.cells #[.int .i64 C.se, .int .i64 C.ch, .int .i64 C.ca, .int .i64 C.ho, .int .i64 C.hs, .int .i64 C.fi, .int .i64 C.la, .int .i64 C.en, .int .i64 C.am, .int .u64 (C.g0 : Nat), .int .u64 (C.g1 : Nat), .int .u64 (C.g2 : Nat), .int .u64 (C.g3 : Nat)] 25)) { C with am := 901 }
        rw [World.size_alloc] at this
        exact this)
      have HXL3 := Lib.hid ((HXL.out.later (below_alloc (Below.refl _ _) (.cells #[.int .i64 C.se, .int .i64 C.ch, .int .i64 C.ca, .int .i64 C.ho, .int .i64 C.hs, .int .i64 C.fi, .int .i64 C.la, .int .i64 C.en, .int .i64 C.am, .int .u64 (C.g0 : Nat), .int .u64 (C.g1 : Nat), .int .u64 (C.g2 : Nat), .int .u64 (C.g3 : Nat)] 25))).later (below_alloc (Below.refl _ _) (.cells #[.int .i64 C.se, .int .i64 C.ch, .int .i64 C.ca, .int .i64 C.ho, .int .i64 C.hs, .int .i64 C.fi, .int .i64 C.la, .int .i64 C.en, .int .i64 901, .int .u64 (C.g0 : Nat), .int .u64 (C.g1 : Nat), .int .u64 (C.g2 : Nat), .int .u64 (C.g3 : Nat)] 25)))
      have HXB3 := Lib.hid (below_alloc (below_alloc HXB.out (.cells #[.int .i64 C.se, .int .i64 C.ch, .int .i64 C.ca, .int .i64 C.ho, .int .i64 C.hs, .int .i64 C.fi, .int .i64 C.la, .int .i64 C.en, .int .i64 C.am, .int .u64 (C.g0 : Nat), .int .u64 (C.g1 : Nat), .int .u64 (C.g2 : Nat), .int .u64 (C.g3 : Nat)] 25)) (.cells #[.int .i64 C.se, .int .i64 C.ch, .int .i64 C.ca, .int .i64 C.ho, .int .i64 C.hs, .int .i64 C.fi, .int .i64 C.la, .int .i64 C.en, .int .i64 901, .int .u64 (C.g0 : Nat), .int .u64 (C.g1 : Nat), .int .u64 (C.g2 : Nat), .int .u64 (C.g3 : Nat)] 25))
      refine (HCL2.out _ HXL3.out).mono ?_
      rintro e w4 ⟨rfl, hb4⟩
      have HD1 := Lib.hid (HC1.out.later hb4)
      have HD2 := Lib.hid (HC2.out.later hb4)
      have HDB := Lib.hid (below_step HXB3.out hb4)
      clear hb4 HC1 HC2 HXB3 HXL3 HXL HXB
      obtain ⟨w5, hw5⟩ : ∃ w5, w4.alloc (.cells #[.int .i64 0, .int .i64 0, .int .i64 0, .int .i64 0, .int .i64 0, .int .i64 0, .int .i64 0, .int .i64 0, .int .i64 0, .int .u64 0, .int .u64 0, .int .u64 0, .int .u64 0] 25) = w5 := ⟨_, rfl⟩
      have HE1 := Lib.hid (show RcB w5 X.heap.size C by rw [← hw5]; exact HD1.out.later (below_alloc (Below.refl _ _) _))
      have HE2 := Lib.hid (show RcB w5 (X.heap.size + 1) { C with am := 901 } by rw [← hw5]; exact HD2.out.later (below_alloc (Below.refl _ _) _))
      have HEB := Lib.hid (show Below w.heap.size w w5 by rw [← hw5]; exact below_alloc HDB.out _)
      have HW5 := Lib.hid hw5
      clear hw5
      have hsz4 : X.heap.size + 1 < w4.heap.size := HD2.out.lt
      have hsz3 : X.heap.size < w4.heap.size := HD1.out.lt
      have HKX := Lib.hid (show recV C = .agg #[.int .i64 C.se, .int .i64 C.ch, .int .i64 C.ca, .int .i64 C.ho, .int .i64 C.hs, .int .i64 C.fi, .int .i64 C.la, .int .i64 300, .int .i64 900, .int .u64 (C.g0 : Nat), .int .u64 (C.g1 : Nat), .int .u64 (C.g2 : Nat), .int .u64 (C.g3 : Nat)] from by simp only [recV, HEN.out, HAM.out])
      have HKY := Lib.hid (show recV { C with am := 901 } = .agg #[.int .i64 C.se, .int .i64 C.ch, .int .i64 C.ca, .int .i64 C.ho, .int .i64 C.hs, .int .i64 C.fi, .int .i64 C.la, .int .i64 300, .int .i64 901, .int .u64 (C.g0 : Nat), .int .u64 (C.g1 : Nat), .int .u64 (C.g2 : Nat), .int .u64 (C.g3 : Nat)] from by simp only [recV, HEN.out])
      rw [HKX.out] at HK1 HK2
      rw [HKY.out] at HK3
      obtain ⟨c0, c1, c2, c3, c4, c5, c6, c7, c8⟩ := HD1.out.nums
      obtain ⟨c9, c10, c11, c12⟩ := HD1.out.signs
      rw [HEN.out] at c7
      rw [HAM.out] at c8
      go_wp2_with fail
      clear c0 c1 c2 c3 c4 c5 c6 c7 c8 c9 c10 c11 c12
      rw [HW5.out]
      refine (HK1.out w5).mono ?_
      rintro e w6 ⟨rfl, hb6⟩
      have HF1 := Lib.hid (HE1.out.later hb6)
      have HF2 := Lib.hid (HE2.out.later hb6)
      have HFB := Lib.hid (below_step HEB.out hb6)
      clear hb6 HE1 HE2 HEB HD1 HD2 HDB
      obtain ⟨c0, c1, c2, c3, c4, c5, c6, c7, c8⟩ := HF1.out.nums
      obtain ⟨c9, c10, c11, c12⟩ := HF1.out.signs
      rw [HEN.out] at c7
      rw [HAM.out] at c8
      go_wp2_with fail
      clear c0 c1 c2 c3 c4 c5 c6 c7 c8 c9 c10 c11 c12
      refine (HK2.out w6).mono ?_
      rintro e w7 ⟨rfl, hb7⟩
      have HG2 := Lib.hid (HF2.out.later hb7)
      have HGB := Lib.hid (below_step HFB.out hb7)
      clear hb7 HF1 HF2 HFB
      obtain ⟨c0, c1, c2, c3, c4, c5, c6, c7, c8⟩ := HG2.out.nums
      obtain ⟨c9, c10, c11, c12⟩ := HG2.out.signs
      simp only at c0 c1 c2 c3 c4 c5 c6 c7 c8 c9 c10 c11 c12
      rw [HEN.out] at c7
      go_wp2_with fail
      clear c0 c1 c2 c3 c4 c5 c6 c7 c8 c9 c10 c11 c12
      refine (HK3.out w7).mono ?_
      rintro e w8 ⟨rfl, hb8⟩
      have HHB := Lib.hid (below_step HGB.out hb8)
      clear hb8
      go_wp2_with fail
      refine (HK4.out w8).mono ?_
      rintro e w9 ⟨rfl, hb9⟩
      have HIB := Lib.hid (below_step HHB.out hb9)
      clear hb9
      go_wp2
      go_ret
      exact ⟨rfl, HIB.out⟩
end Go.Proofs.Ytddbobphmakmmaa
