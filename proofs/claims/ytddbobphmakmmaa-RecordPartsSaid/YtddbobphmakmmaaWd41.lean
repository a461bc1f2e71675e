/- Chapter 41: record.Close and the reference's Close. -/
import Derived.Test.YtddbobphmakmmaaWc41
import Derived.Test.YtddbobphmakmmaaWh40
import Derived.Test.YtddbobphmakmmaaWi40
namespace Go.Proofs.Ytddbobphmakmmaa
open Go.RowKit
attribute [local go_sem] Oper.semAt_some

def zeroRc : Rc := ⟨0, 0, 0, 0, 0, 0, 0, 0, 0, 0, 0, 0, 0⟩
def enZero (r : Rc) : Rc := { r with en := 0 }
def clOk (r : Rc) (l : List Rd) : Bool := validC (enZero r) && enOk l r.fi r.la
/-- Signed by the first n parties. -/
def sgd (r : Rc) (k : K4) : Nat → Rc
  | 0 => r
  | 1 => { r with g0 := sig r k.k0 }
  | 2 => { r with g0 := sig r k.k0, g1 := sig r k.k1 }
  | 3 => { r with g0 := sig r k.k0, g1 := sig r k.k1, g2 := sig r k.k2 }
  | _ => { r with g0 := sig r k.k0, g1 := sig r k.k1, g2 := sig r k.k2, g3 := sig r k.k3 }
def clRec (r : Rc) (l : List Rd) (k : K4) : Rc := if clOk r l then sgd { r with en := enN l r.fi r.la } k 4 else zeroRc
theorem sig_sgd (r : Rc) (k : K4) (z : Nat) : ∀ n, sig (sgd r k n) z = sig r z
  | 0 => by simp only [sig, sgd]
  | 1 => by simp only [sig, sgd]
  | 2 => by simp only [sig, sgd]
  | 3 => by simp only [sig, sgd]
  | _ + 4 => by simp only [sig, sgd]
theorem sgd_1 (r : Rc) (k : K4) : sgd r k 1 = { sgd r k 0 with g0 := sig r k.k0 } := by simp only [sgd]
theorem sgd_2 (r : Rc) (k : K4) : sgd r k 2 = { sgd r k 1 with g1 := sig r k.k1 } := by simp only [sgd]
theorem sgd_3 (r : Rc) (k : K4) : sgd r k 3 = { sgd r k 2 with g2 := sig r k.k2 } := by simp only [sgd]
theorem sgd_4 (r : Rc) (k : K4) : sgd r k 4 = { sgd r k 3 with g3 := sig r k.k3 } := by simp only [sgd]
def clV (r : Rc) (l : List Rd) (k : K4) : Value := .tuple #[recV (clRec r l k), .int .i64 (if clOk r l then 0 else 1)]
theorem clV_no {r : Rc} {l : List Rd} {k : K4} (h : clOk r l = false) : clV r l k = .tuple #[.agg #[.int .i64 0, .int .i64 0, .int .i64 0, .int .i64 0, .int .i64 0, .int .i64 0, .int .i64 0, .int .i64 0, .int .i64 0, .int .u64 0, .int .u64 0, .int .u64 0, .int .u64 0], .int .i64 1] := by
  unfold clV clRec
  rw [h]
  rfl
theorem clV_yes {r : Rc} {l : List Rd} {k : K4} (h : clOk r l = true) : clV r l k = .tuple #[recV (sgd { r with en := enN l r.fi r.la } k 4), .int .i64 0] := by
  unfold clV clRec
  rw [h]
  rfl

theorem arr13 (a0 a1 a2 a3 a4 a5 a6 a7 a8 a9 a10 a11 a12 v0 v1 v2 v3 v4 v5 v6 v7 v8 v9 v10 v11 v12 : Value) : (((((((((((((#[a0, a1, a2, a3, a4, a5, a6, a7, a8, a9, a10, a11, a12].setIfInBounds 0 v0).setIfInBounds 1 v1).setIfInBounds 2 v2).setIfInBounds 3 v3).setIfInBounds 4 v4).setIfInBounds 5 v5).setIfInBounds 6 v6).setIfInBounds 7 v7).setIfInBounds 8 v8).setIfInBounds 9 v9).setIfInBounds 10 v10).setIfInBounds 11 v11).setIfInBounds 12 v12) = #[v0, v1, v2, v3, v4, v5, v6, v7, v8, v9, v10, v11, v12] := by
  simp [List.set]
/-- A whole record is stored. -/
def putRc (w : World) (B : Nat) (r : Rc) : World := (((((((((((((w.setCell ⟨B, 0, none⟩ (.int .i64 r.se)).setCell ⟨B, 1, none⟩ (.int .i64 r.ch)).setCell ⟨B, 2, none⟩ (.int .i64 r.ca)).setCell ⟨B, 3, none⟩ (.int .i64 r.ho)).setCell ⟨B, 4, none⟩ (.int .i64 r.hs)).setCell ⟨B, 5, none⟩ (.int .i64 r.fi)).setCell ⟨B, 6, none⟩ (.int .i64 r.la)).setCell ⟨B, 7, none⟩ (.int .i64 r.en)).setCell ⟨B, 8, none⟩ (.int .i64 r.am)).setCell ⟨B, 9, none⟩ (.int .u64 (r.g0 : Nat))).setCell ⟨B, 10, none⟩ (.int .u64 (r.g1 : Nat))).setCell ⟨B, 11, none⟩ (.int .u64 (r.g2 : Nat))).setCell ⟨B, 12, none⟩ (.int .u64 (r.g3 : Nat)))
theorem RcB.put {wr : World} {B : Nat} {r0 : Rc} (h : RcB wr B r0) (r : Rc) : RcB (putRc wr B r) B r := by
  have := (((((((((((((h.set 0 (.int .i64 r.se)).set 1 (.int .i64 r.ch)).set 2 (.int .i64 r.ca)).set 3 (.int .i64 r.ho)).set 4 (.int .i64 r.hs)).set 5 (.int .i64 r.fi)).set 6 (.int .i64 r.la)).set 7 (.int .i64 r.en)).set 8 (.int .i64 r.am)).set 9 (.int .u64 (r.g0 : Nat))).set 10 (.int .u64 (r.g1 : Nat))).set 11 (.int .u64 (r.g2 : Nat))).set 12 (.int .u64 (r.g3 : Nat)))
  rw [arr13] at this
  exact this
theorem below_putRc {n B : Nat} {w wr : World} (hb : Below n w wr) (hB : n ≤ B) (r : Rc) : Below n w (putRc wr B r) := (((((((((((((hb.setCell hB (.int .i64 r.se)).setCell hB (.int .i64 r.ch)).setCell hB (.int .i64 r.ca)).setCell hB (.int .i64 r.ho)).setCell hB (.int .i64 r.hs)).setCell hB (.int .i64 r.fi)).setCell hB (.int .i64 r.la)).setCell hB (.int .i64 r.en)).setCell hB (.int .i64 r.am)).setCell hB (.int .u64 (r.g0 : Nat))).setCell hB (.int .u64 (r.g1 : Nat))).setCell hB (.int .u64 (r.g2 : Nat))).setCell hB (.int .u64 (r.g3 : Nat)))
theorem other_putRc {g B : Nat} {t : TypeId} {cs : Array Value} {wr : World} (h : Blk wr g t cs) (hB : g ≠ B) (r : Rc) : Blk (putRc wr B r) g t cs := (((((((((((((h.other (p := ⟨B, 0, none⟩) hB (.int .i64 r.se)).other (p := ⟨B, 1, none⟩) hB (.int .i64 r.ch)).other (p := ⟨B, 2, none⟩) hB (.int .i64 r.ca)).other (p := ⟨B, 3, none⟩) hB (.int .i64 r.ho)).other (p := ⟨B, 4, none⟩) hB (.int .i64 r.hs)).other (p := ⟨B, 5, none⟩) hB (.int .i64 r.fi)).other (p := ⟨B, 6, none⟩) hB (.int .i64 r.la)).other (p := ⟨B, 7, none⟩) hB (.int .i64 r.en)).other (p := ⟨B, 8, none⟩) hB (.int .i64 r.am)).other (p := ⟨B, 9, none⟩) hB (.int .u64 (r.g0 : Nat))).other (p := ⟨B, 10, none⟩) hB (.int .u64 (r.g1 : Nat))).other (p := ⟨B, 11, none⟩) hB (.int .u64 (r.g2 : Nat))).other (p := ⟨B, 12, none⟩) hB (.int .u64 (r.g3 : Nat)))

theorem RcB.setEn {wr : World} {B : Nat} {r : Rc} (h : RcB wr B (enZero r)) (N : Int) : RcB (wr.setCell ⟨B, 7, none⟩ (.int .i64 N)) B { r with en := N } := by
  have := Blk.set h 7 (.int .i64 N)
  simpa [RcB, enZero] using this
theorem RcB.setG0 {wr : World} {B : Nat} {r : Rc} (h : RcB wr B r) (G : Nat) : RcB (wr.setCell ⟨B, 9, none⟩ (.int .u64 (G : Nat))) B { r with g0 := G } := by
  have := Blk.set h 9 (.int .u64 (G : Nat))
  simpa [RcB] using this
theorem RcB.setG1 {wr : World} {B : Nat} {r : Rc} (h : RcB wr B r) (G : Nat) : RcB (wr.setCell ⟨B, 10, none⟩ (.int .u64 (G : Nat))) B { r with g1 := G } := by
  have := Blk.set h 10 (.int .u64 (G : Nat))
  simpa [RcB] using this
theorem RcB.setG2 {wr : World} {B : Nat} {r : Rc} (h : RcB wr B r) (G : Nat) : RcB (wr.setCell ⟨B, 11, none⟩ (.int .u64 (G : Nat))) B { r with g2 := G } := by
  have := Blk.set h 11 (.int .u64 (G : Nat))
  simpa [RcB] using this
theorem RcB.setG3 {wr : World} {B : Nat} {r : Rc} (h : RcB wr B r) (G : Nat) : RcB (wr.setCell ⟨B, 12, none⟩ (.int .u64 (G : Nat))) B { r with g3 := G } := by
  have := Blk.set h 12 (.int .u64 (G : Nat))
  simpa [RcB] using this

/-- The boxes of Close. -/
structure ClSt (w wr : World) (r : Rc) (k : K4) : Prop where
  rc : RcB wr w.heap.size r
  ky : KyB wr (w.heap.size + 1) k
  out : RcB wr (w.heap.size + 1 + 1) zeroRc
  bel : Below w.heap.size w wr
theorem ClSt.later {w wr wr' : World} {r : Rc} {k : K4} (h : ClSt w wr r k) (hb : Below wr.heap.size wr wr') : ClSt w wr' r k := ⟨h.rc.later hb, h.ky.later hb, h.out.later hb, below_step h.bel hb⟩
theorem ClSt.set {w wr : World} {r r' : Rc} {k : K4} (h : ClSt w wr r k) (j : Nat) (u : Value) (hr : RcB (wr.setCell ⟨w.heap.size, j, none⟩ u) w.heap.size r') : ClSt w (wr.setCell ⟨w.heap.size, j, none⟩ u) r' k :=
  ⟨hr, Blk.other h.ky (by simp) u, Blk.other h.out (by simp; omega) u, h.bel.setCell (Nat.le_refl _) u⟩
theorem ClSt.new (w : World) (r : Rc) (k : K4) : ClSt w (((w.alloc (.cells #[.int .i64 r.se, .int .i64 r.ch, .int .i64 r.ca, .int .i64 r.ho, .int .i64 r.hs, .int .i64 r.fi, .int .i64 r.la, .int .i64 r.en, .int .i64 r.am, .int .u64 (r.g0 : Nat), .int .u64 (r.g1 : Nat), .int .u64 (r.g2 : Nat), .int .u64 (r.g3 : Nat)] 25)).alloc (.cells #[.int .u64 (k.k0 : Nat), .int .u64 (k.k1 : Nat), .int .u64 (k.k2 : Nat), .int .u64 (k.k3 : Nat)] 23)).alloc (.cells #[.int .i64 0, .int .i64 0, .int .i64 0, .int .i64 0, .int .i64 0, .int .i64 0, .int .i64 0, .int .i64 0, .int .i64 0, .int .u64 0, .int .u64 0, .int .u64 0, .int .u64 0] 25)) r k := by
  refine ⟨((RcB.new w r).later (below_alloc (Below.refl _ _) _)).later (below_alloc (Below.refl _ _) _), ?_, ?_, below_alloc (below_alloc (below_alloc (Below.refl _ _) _) _) _⟩
  · have h := Blk.new (w.alloc (.cells #[.int .i64 r.se, .int .i64 r.ch, .int .i64 r.ca, .int .i64 r.ho, .int .i64 r.hs, .int .i64 r.fi, .int .i64 r.la, .int .i64 r.en, .int .i64 r.am, .int .u64 (r.g0 : Nat), .int .u64 (r.g1 : Nat), .int .u64 (r.g2 : Nat), .int .u64 (r.g3 : Nat)] 25)) 23 #[.int .u64 (k.k0 : Nat), .int .u64 (k.k1 : Nat), .int .u64 (k.k2 : Nat), .int .u64 (k.k3 : Nat)]
    rw [World.size_alloc] at h
    exact KyB.later h (below_alloc (Below.refl _ _) _)
  · have h := Blk.new ((w.alloc (.cells #[.int .i64 r.se, .int .i64 r.ch, .int .i64 r.ca, .int .i64 r.ho, .int .i64 r.hs, .int .i64 r.fi, .int .i64 r.la, .int .i64 r.en, .int .i64 r.am, .int .u64 (r.g0 : Nat), .int .u64 (r.g1 : Nat), .int .u64 (r.g2 : Nat), .int .u64 (r.g3 : Nat)] 25)).alloc (.cells #[.int .u64 (k.k0 : Nat), .int .u64 (k.k1 : Nat), .int .u64 (k.k2 : Nat), .int .u64 (k.k3 : Nat)] 23)) 25 #[.int .i64 0, .int .i64 0, .int .i64 0, .int .i64 0, .int .i64 0, .int .i64 0, .int .i64 0, .int .i64 0, .int .i64 0, .int .u64 0, .int .u64 0, .int .u64 0, .int .u64 0]
    rw [World.size_alloc, World.size_alloc] at h
    exact h

set_option maxRecDepth 100000 in
set_option maxHeartbeats 8000000 in
theorem rClose_any (r : Rc) (o : Option Addr) (cap : Nat) (l : List Rd) (k : K4) (w : World) (hr : Rds w o l) (hl : l.length ≤ 9223372036854775807) :
    Calls Try.prog 10 #[recV r, .slice o l.length cap, keyV k] w (Ret (clV r l k) w) := by
  have HR := Lib.hid hr
  clear hr
  obtain ⟨V, hV⟩ : ∃ V, clV r l k = V := ⟨_, rfl⟩
  rw [hV]
  have HV := Lib.hid hV
  clear hV
  go_enter Try.func10, Try.ntmps10
  have HC0 := Lib.hid (ClSt.new w (enZero r) k)
  go_wp2_with fail
  refine (rvalid_any (enZero r) _).mono ?_
  rintro e w1 ⟨rfl, hb1⟩
  have HC1 := Lib.hid (HC0.out.later hb1)
  clear hb1 HC0
  have z0 := HC1.out.out.lt
  cases hv : validC (enZero r) with
  | false =>
    have HN := Lib.hid (clV_no (k := k) (show clOk r l = false by unfold clOk; rw [hv]; rfl))
    have oz := HC1.out.out
    have o0 := oz.cell 0
    have o1 := oz.cell 1
    have o2 := oz.cell 2
    have o3 := oz.cell 3
    have o4 := oz.cell 4
    have o5 := oz.cell 5
    have o6 := oz.cell 6
    have o7 := oz.cell 7
    have o8 := oz.cell 8
    have o9 := oz.cell 9
    have o10 := oz.cell 10
    have o11 := oz.cell 11
    have o12 := oz.cell 12
    have f0 := oz.frozen 0
    have f1 := oz.frozen 1
    have f2 := oz.frozen 2
    have f3 := oz.frozen 3
    have f4 := oz.frozen 4
    have f5 := oz.frozen 5
    have f6 := oz.frozen 6
    have f7 := oz.frozen 7
    have f8 := oz.frozen 8
    have f9 := oz.frozen 9
    have f10 := oz.frozen 10
    have f11 := oz.frozen 11
    have f12 := oz.frozen 12
    clear oz
    simp [zeroRc] at o0 o1 o2 o3 o4 o5 o6 o7 o8 o9 o10 o11 o12
    go_wp2
    clear o0 o1 o2 o3 o4 o5 o6 o7 o8 o9 o10 o11 o12 f0 f1 f2 f3 f4 f5 f6 f7 f8 f9 f10 f11 f12
    have HP := Lib.hid (HC1.out.out.put zeroRc)
    have HBP := Lib.hid (below_putRc HC1.out.bel (show w.heap.size ≤ w.heap.size + 1 + 1 by omega) zeroRc)
    change bodyPost _ _ _ _ _ (putRc w1 (w.heap.size + 1 + 1) zeroRc)
    obtain ⟨W, hW⟩ : ∃ W, putRc w1 (w.heap.size + 1 + 1) zeroRc = W := ⟨_, rfl⟩
    rw [hW] at HP HBP ⊢
    clear hW
    have oz := HP.out
    have o0 := oz.cell 0
    have o1 := oz.cell 1
    have o2 := oz.cell 2
    have o3 := oz.cell 3
    have o4 := oz.cell 4
    have o5 := oz.cell 5
    have o6 := oz.cell 6
    have o7 := oz.cell 7
    have o8 := oz.cell 8
    have o9 := oz.cell 9
    have o10 := oz.cell 10
    have o11 := oz.cell 11
    have o12 := oz.cell 12
    clear oz
    simp [zeroRc] at o0 o1 o2 o3 o4 o5 o6 o7 o8 o9 o10 o11 o12
    refine bodyPost_ret (v := .tuple #[.agg #[.int .i64 0, .int .i64 0, .int .i64 0, .int .i64 0, .int .i64 0, .int .i64 0, .int .i64 0, .int .i64 0, .int .i64 0, .int .u64 0, .int .u64 0, .int .u64 0, .int .u64 0], .int .i64 1]) (by simp [results, Try.results10, go_sem, o0, o1, o2, o3, o4, o5, o6, o7, o8, o9, o10, o11, o12]) rfl ⟨by rw [← HV.out, HN.out], HBP.out⟩
  | true =>
    have HVL := Lib.hid hv
    clear hv
    have c5 : w1.cell? ⟨w.heap.size, 5, none⟩ = some (.int .i64 r.fi) := HC1.out.rc.cell 5
    have c6 : w1.cell? ⟨w.heap.size, 6, none⟩ = some (.int .i64 r.la) := HC1.out.rc.cell 6
    go_wp2_with fail
    clear c5 c6
    refine (Energy_any o cap l r.fi r.la w1 (HR.out.later HC1.out.bel) hl).mono ?_
    rintro e w2 ⟨rfl, hb2⟩
    have HC2 := Lib.hid (HC1.out.later hb2)
    clear hb2 HC1 z0
    have z0 := HC2.out.out.lt
    cases he : enOk l r.fi r.la with
    | false =>
      rw [show enV l r.fi r.la = .tuple #[.int .i64 (enN l r.fi r.la), .int .i64 1] from by unfold enV; rw [he]; rfl]
      have HN := Lib.hid (clV_no (k := k) (show clOk r l = false by unfold clOk; rw [he, Bool.and_false]))
      have oz := HC2.out.out
      have o0 := oz.cell 0
      have o1 := oz.cell 1
      have o2 := oz.cell 2
      have o3 := oz.cell 3
      have o4 := oz.cell 4
      have o5 := oz.cell 5
      have o6 := oz.cell 6
      have o7 := oz.cell 7
      have o8 := oz.cell 8
      have o9 := oz.cell 9
      have o10 := oz.cell 10
      have o11 := oz.cell 11
      have o12 := oz.cell 12
      have f0 := oz.frozen 0
      have f1 := oz.frozen 1
      have f2 := oz.frozen 2
      have f3 := oz.frozen 3
      have f4 := oz.frozen 4
      have f5 := oz.frozen 5
      have f6 := oz.frozen 6
      have f7 := oz.frozen 7
      have f8 := oz.frozen 8
      have f9 := oz.frozen 9
      have f10 := oz.frozen 10
      have f11 := oz.frozen 11
      have f12 := oz.frozen 12
      clear oz
      simp [zeroRc] at o0 o1 o2 o3 o4 o5 o6 o7 o8 o9 o10 o11 o12
      go_wp2
      clear o0 o1 o2 o3 o4 o5 o6 o7 o8 o9 o10 o11 o12 f0 f1 f2 f3 f4 f5 f6 f7 f8 f9 f10 f11 f12
      have HP := Lib.hid (HC2.out.out.put zeroRc)
      have HBP := Lib.hid (below_putRc HC2.out.bel (show w.heap.size ≤ w.heap.size + 1 + 1 by omega) zeroRc)
      change bodyPost _ _ _ _ _ (putRc w2 (w.heap.size + 1 + 1) zeroRc)
      obtain ⟨W, hW⟩ : ∃ W, putRc w2 (w.heap.size + 1 + 1) zeroRc = W := ⟨_, rfl⟩
      rw [hW] at HP HBP ⊢
      clear hW
      have oz := HP.out
      have o0 := oz.cell 0
      have o1 := oz.cell 1
      have o2 := oz.cell 2
      have o3 := oz.cell 3
      have o4 := oz.cell 4
      have o5 := oz.cell 5
      have o6 := oz.cell 6
      have o7 := oz.cell 7
      have o8 := oz.cell 8
      have o9 := oz.cell 9
      have o10 := oz.cell 10
      have o11 := oz.cell 11
      have o12 := oz.cell 12
      clear oz
      simp [zeroRc] at o0 o1 o2 o3 o4 o5 o6 o7 o8 o9 o10 o11 o12
      refine bodyPost_ret (v := .tuple #[.agg #[.int .i64 0, .int .i64 0, .int .i64 0, .int .i64 0, .int .i64 0, .int .i64 0, .int .i64 0, .int .i64 0, .int .i64 0, .int .u64 0, .int .u64 0, .int .u64 0, .int .u64 0], .int .i64 1]) (by simp [results, Try.results10, go_sem, o0, o1, o2, o3, o4, o5, o6, o7, o8, o9, o10, o11, o12]) rfl ⟨by rw [← HV.out, HN.out], HBP.out⟩
    | true =>
      rw [show enV l r.fi r.la = .tuple #[.int .i64 (enN l r.fi r.la), .int .i64 0] from by unfold enV; rw [he]; rfl]
      have HN := Lib.hid (clV_yes (k := k) (show clOk r l = true by unfold clOk; rw [HVL.out, he]; rfl))
      clear he
      obtain ⟨N, hN⟩ : ∃ N, enN l r.fi r.la = N := ⟨_, rfl⟩
      rw [hN] at HN ⊢
      clear hN
      have f7 := HC2.out.rc.frozen 7
      have c7 : w2.cell? ⟨w.heap.size, 7, none⟩ = some (.int .i64 0) := HC2.out.rc.cell 7
      have HC3 := Lib.hid (HC2.out.set 7 (.int .i64 N) (RcB.setEn HC2.out.rc N))
      obtain ⟨k0, k1, k2, k3⟩ := HC3.out.ky.keys
      obtain ⟨k0', k1', k2', k3'⟩ := HC2.out.ky.keys
      go_wp2
      clear k0 k1 k2 k3 k0' k1' k2' k3' c7 f7
      obtain ⟨r1, hr1⟩ : ∃ r1 : Rc, { r with en := N } = r1 := ⟨_, rfl⟩
      rw [hr1] at HC3 HN
      clear hr1
      obtain ⟨w3, hw3⟩ : ∃ w3, w2.setCell ⟨w.heap.size, 7, none⟩ (.int .i64 N) = w3 := ⟨_, rfl⟩
      rw [hw3] at HC3 ⊢
      clear hw3 HC2
      go_loopw [33] (fun i wr => ∃ n : Nat, n ≤ 4 ∧ i = .int .i64 n ∧ ClSt w wr (sgd r1 k n) k) (fun i _ => 4 - (intOf i).toNat)
      case atStart => exact ⟨0, by omega, rfl, HC3.out⟩
      case round =>
        obtain ⟨n, hn, rfl, hc⟩ := hrel
        have HC := Lib.hid hc
        clear hc HC3
        rcases (by omega : n = 0 ∨ n = 1 ∨ n = 2 ∨ n = 3 ∨ n = 4) with rfl | rfl | rfl | rfl | rfl
        · rw [show ((0 : Nat) : Int) = 0 from rfl]
          have HS := Lib.hid (fun w' => rSign_any (sgd r1 k 0) k.k0 k.h0 w')
          rw [sig_sgd] at HS
          have HSG := Lib.hid (sgd_1 r1 k)
          obtain ⟨R, hR⟩ : ∃ R, sgd r1 k 0 = R := ⟨_, rfl⟩
          obtain ⟨G, hG⟩ : ∃ G, sig r1 k.k0 = G := ⟨_, rfl⟩
          rw [hR] at HC HS HSG
          rw [hG] at HS HSG
          clear hR hG
          have hix : ∀ w, (Instr.index 23 (.agg #[.int .u64 (k.k0 : Nat), .int .u64 (k.k1 : Nat), .int .u64 (k.k2 : Nat), .int .u64 (k.k3 : Nat)]) (.int .i64 0)).run Try.prog w = .ok (.int .u64 (k.k0 : Nat)) w := fun _ => by kernel_rfl
          obtain ⟨c0, c1, c2, c3, c4, c5, c6, c7, c8⟩ := HC.out.rc.nums
          obtain ⟨c9, c10, c11, c12⟩ := HC.out.rc.signs
          go_wp2_with fail
          clear hix c0 c1 c2 c3 c4 c5 c6 c7 c8 c9 c10 c11 c12
          refine (HS.out wr).mono ?_
          rintro e w4 ⟨rfl, hb4⟩
          have HC4 := Lib.hid (HC.out.later hb4)
          clear hb4
          obtain ⟨d9, d10, d11, d12⟩ := HC4.out.rc.signs
          have f9 := HC4.out.rc.frozen 9
          have HC5 := Lib.hid (HC4.out.set 9 (.int .u64 (G : Nat)) (RcB.setG0 HC4.out.rc G))
          go_wp2
          clear d9 d10 d11 d12 f9
          go_roundw
          case rel => exact ⟨1, by omega, rfl, by rw [HSG.out]; exact HC5.out⟩
          case measure => simp [intOf]
        · rw [show ((1 : Nat) : Int) = 1 from rfl]
          have HS := Lib.hid (fun w' => rSign_any (sgd r1 k 1) k.k1 k.h1 w')
          rw [sig_sgd] at HS
          have HSG := Lib.hid (sgd_2 r1 k)
          obtain ⟨R, hR⟩ : ∃ R, sgd r1 k 1 = R := ⟨_, rfl⟩
          obtain ⟨G, hG⟩ : ∃ G, sig r1 k.k1 = G := ⟨_, rfl⟩
          rw [hR] at HC HS HSG
          rw [hG] at HS HSG
          clear hR hG
          have hix : ∀ w, (Instr.index 23 (.agg #[.int .u64 (k.k0 : Nat), .int .u64 (k.k1 : Nat), .int .u64 (k.k2 : Nat), .int .u64 (k.k3 : Nat)]) (.int .i64 1)).run Try.prog w = .ok (.int .u64 (k.k1 : Nat)) w := fun _ => by kernel_rfl
          obtain ⟨c0, c1, c2, c3, c4, c5, c6, c7, c8⟩ := HC.out.rc.nums
          obtain ⟨c9, c10, c11, c12⟩ := HC.out.rc.signs
          go_wp2_with fail
          clear hix c0 c1 c2 c3 c4 c5 c6 c7 c8 c9 c10 c11 c12
          refine (HS.out wr).mono ?_
          rintro e w4 ⟨rfl, hb4⟩
          have HC4 := Lib.hid (HC.out.later hb4)
          clear hb4
          obtain ⟨d9, d10, d11, d12⟩ := HC4.out.rc.signs
          have f10 := HC4.out.rc.frozen 10
          have HC5 := Lib.hid (HC4.out.set 10 (.int .u64 (G : Nat)) (RcB.setG1 HC4.out.rc G))
          go_wp2
          clear d9 d10 d11 d12 f10
          go_roundw
          case rel => exact ⟨2, by omega, rfl, by rw [HSG.out]; exact HC5.out⟩
          case measure => simp [intOf]
        · rw [show ((2 : Nat) : Int) = 2 from rfl]
          have HS := Lib.hid (fun w' => rSign_any (sgd r1 k 2) k.k2 k.h2 w')
          rw [sig_sgd] at HS
          have HSG := Lib.hid (sgd_3 r1 k)
          obtain ⟨R, hR⟩ : ∃ R, sgd r1 k 2 = R := ⟨_, rfl⟩
          obtain ⟨G, hG⟩ : ∃ G, sig r1 k.k2 = G := ⟨_, rfl⟩
          rw [hR] at HC HS HSG
          rw [hG] at HS HSG
          clear hR hG
          have hix : ∀ w, (Instr.index 23 (.agg #[.int .u64 (k.k0 : Nat), .int .u64 (k.k1 : Nat), .int .u64 (k.k2 : Nat), .int .u64 (k.k3 : Nat)]) (.int .i64 2)).run Try.prog w = .ok (.int .u64 (k.k2 : Nat)) w := fun _ => by kernel_rfl
          obtain ⟨c0, c1, c2, c3, c4, c5, c6, c7, c8⟩ := HC.out.rc.nums
          obtain ⟨c9, c10, c11, c12⟩ := HC.out.rc.signs
          go_wp2_with fail
          clear hix c0 c1 c2 c3 c4 c5 c6 c7 c8 c9 c10 c11 c12
          refine (HS.out wr).mono ?_
          rintro e w4 ⟨rfl, hb4⟩
          have HC4 := Lib.hid (HC.out.later hb4)
          clear hb4
          obtain ⟨d9, d10, d11, d12⟩ := HC4.out.rc.signs
          have f11 := HC4.out.rc.frozen 11
          have HC5 := Lib.hid (HC4.out.set 11 (.int .u64 (G : Nat)) (RcB.setG2 HC4.out.rc G))
          go_wp2
          clear d9 d10 d11 d12 f11
          go_roundw
          case rel => exact ⟨3, by omega, rfl, by rw [HSG.out]; exact HC5.out⟩
          case measure => simp [intOf]
        · rw [show ((3 : Nat) : Int) = 3 from rfl]
          have HS := Lib.hid (fun w' => rSign_any (sgd r1 k 3) k.k3 k.h3 w')
          rw [sig_sgd] at HS
          have HSG := Lib.hid (sgd_4 r1 k)
          obtain ⟨R, hR⟩ : ∃ R, sgd r1 k 3 = R := ⟨_, rfl⟩
          obtain ⟨G, hG⟩ : ∃ G, sig r1 k.k3 = G := ⟨_, rfl⟩
          rw [hR] at HC HS HSG
          rw [hG] at HS HSG
          clear hR hG
          have hix : ∀ w, (Instr.index 23 (.agg #[.int .u64 (k.k0 : Nat), .int .u64 (k.k1 : Nat), .int .u64 (k.k2 : Nat), .int .u64 (k.k3 : Nat)]) (.int .i64 3)).run Try.prog w = .ok (.int .u64 (k.k3 : Nat)) w := fun _ => by kernel_rfl
          obtain ⟨c0, c1, c2, c3, c4, c5, c6, c7, c8⟩ := HC.out.rc.nums
          obtain ⟨c9, c10, c11, c12⟩ := HC.out.rc.signs
          go_wp2_with fail
          clear hix c0 c1 c2 c3 c4 c5 c6 c7 c8 c9 c10 c11 c12
          refine (HS.out wr).mono ?_
          rintro e w4 ⟨rfl, hb4⟩
          have HC4 := Lib.hid (HC.out.later hb4)
          clear hb4
          obtain ⟨d9, d10, d11, d12⟩ := HC4.out.rc.signs
          have f12 := HC4.out.rc.frozen 12
          have HC5 := Lib.hid (HC4.out.set 12 (.int .u64 (G : Nat)) (RcB.setG3 HC4.out.rc G))
          go_wp2
          clear d9 d10 d11 d12 f12
          go_roundw
          case rel => exact ⟨4, by omega, rfl, by rw [HSG.out]; exact HC5.out⟩
          case measure => simp [intOf]
        · rw [show ((4 : Nat) : Int) = 4 from rfl]
          obtain ⟨R, hR⟩ : ∃ R, sgd r1 k 4 = R := ⟨_, rfl⟩
          rw [hR] at HC HN
          clear hR
          obtain ⟨c0, c1, c2, c3, c4, c5, c6, c7, c8⟩ := HC.out.rc.nums
          obtain ⟨c9, c10, c11, c12⟩ := HC.out.rc.signs
          have oz := HC.out.out
          have o0 := oz.cell 0
          have o1 := oz.cell 1
          have o2 := oz.cell 2
          have o3 := oz.cell 3
          have o4 := oz.cell 4
          have o5 := oz.cell 5
          have o6 := oz.cell 6
          have o7 := oz.cell 7
          have o8 := oz.cell 8
          have o9 := oz.cell 9
          have o10 := oz.cell 10
          have o11 := oz.cell 11
          have o12 := oz.cell 12
          have f0 := oz.frozen 0
          have f1 := oz.frozen 1
          have f2 := oz.frozen 2
          have f3 := oz.frozen 3
          have f4 := oz.frozen 4
          have f5 := oz.frozen 5
          have f6 := oz.frozen 6
          have f7 := oz.frozen 7
          have f8 := oz.frozen 8
          have f9 := oz.frozen 9
          have f10 := oz.frozen 10
          have f11 := oz.frozen 11
          have f12 := oz.frozen 12
          clear oz
          simp [zeroRc] at o0 o1 o2 o3 o4 o5 o6 o7 o8 o9 o10 o11 o12
          go_wp2
          clear o0 o1 o2 o3 o4 o5 o6 o7 o8 o9 o10 o11 o12 f0 f1 f2 f3 f4 f5 f6 f7 f8 f9 f10 f11 f12 c0 c1 c2 c3 c4 c5 c6 c7 c8 c9 c10 c11 c12
          have HP := Lib.hid (HC.out.out.put R)
          have HBP := Lib.hid (below_putRc HC.out.bel (show w.heap.size ≤ w.heap.size + 1 + 1 by omega) R)
          change bodyPost _ _ _ _ _ (putRc wr (w.heap.size + 1 + 1) R)
          obtain ⟨W, hW⟩ : ∃ W, putRc wr (w.heap.size + 1 + 1) R = W := ⟨_, rfl⟩
          rw [hW] at HP HBP ⊢
          clear hW
          obtain ⟨c0, c1, c2, c3, c4, c5, c6, c7, c8⟩ := HP.out.nums
          obtain ⟨c9, c10, c11, c12⟩ := HP.out.signs
          exact bodyPost_ret (v := .tuple #[recV R, .int .i64 0]) (by simp [results, Try.results10, go_sem, c0, c1, c2, c3, c4, c5, c6, c7, c8, c9, c10, c11, c12]) rfl ⟨by rw [← HV.out, HN.out], HBP.out⟩
set_option maxRecDepth 100000 in
set_option maxHeartbeats 8000000 in
theorem rrefClose_any (r : Rc) (o : Option Addr) (cap : Nat) (l : List Rd) (k : K4) (w : World) (hr : Rds w o l) (hl : l.length ≤ 9223372036854775807) :
    Calls Try.prog 11 #[recV r, .slice o l.length cap, keyV k] w (Ret (clV r l k) w) := by
  have HR := Lib.hid hr
  clear hr
  obtain ⟨V, hV⟩ : ∃ V, clV r l k = V := ⟨_, rfl⟩
  rw [hV]
  have HV := Lib.hid hV
  clear hV
  go_enter Try.func11, Try.ntmps11
  have HC0 := Lib.hid (ClSt.new w (enZero r) k)
  go_wp2_with fail
  refine (rrefValid_any (enZero r) _).mono ?_
  rintro e w1 ⟨rfl, hb1⟩
  have HC1 := Lib.hid (HC0.out.later hb1)
  clear hb1 HC0
  have z0 := HC1.out.out.lt
  cases hv : validC (enZero r) with
  | false =>
    have HN := Lib.hid (clV_no (k := k) (show clOk r l = false by unfold clOk; rw [hv]; rfl))
    have oz := HC1.out.out
    have o0 := oz.cell 0
    have o1 := oz.cell 1
    have o2 := oz.cell 2
    have o3 := oz.cell 3
    have o4 := oz.cell 4
    have o5 := oz.cell 5
    have o6 := oz.cell 6
    have o7 := oz.cell 7
    have o8 := oz.cell 8
    have o9 := oz.cell 9
    have o10 := oz.cell 10
    have o11 := oz.cell 11
    have o12 := oz.cell 12
    have f0 := oz.frozen 0
    have f1 := oz.frozen 1
    have f2 := oz.frozen 2
    have f3 := oz.frozen 3
    have f4 := oz.frozen 4
    have f5 := oz.frozen 5
    have f6 := oz.frozen 6
    have f7 := oz.frozen 7
    have f8 := oz.frozen 8
    have f9 := oz.frozen 9
    have f10 := oz.frozen 10
    have f11 := oz.frozen 11
    have f12 := oz.frozen 12
    clear oz
    simp [zeroRc] at o0 o1 o2 o3 o4 o5 o6 o7 o8 o9 o10 o11 o12
    go_wp2
    clear o0 o1 o2 o3 o4 o5 o6 o7 o8 o9 o10 o11 o12 f0 f1 f2 f3 f4 f5 f6 f7 f8 f9 f10 f11 f12
    have HP := Lib.hid (HC1.out.out.put zeroRc)
    have HBP := Lib.hid (below_putRc HC1.out.bel (show w.heap.size ≤ w.heap.size + 1 + 1 by omega) zeroRc)
    change bodyPost _ _ _ _ _ (putRc w1 (w.heap.size + 1 + 1) zeroRc)
    obtain ⟨W, hW⟩ : ∃ W, putRc w1 (w.heap.size + 1 + 1) zeroRc = W := ⟨_, rfl⟩
    rw [hW] at HP HBP ⊢
    clear hW
    have oz := HP.out
    have o0 := oz.cell 0
    have o1 := oz.cell 1
    have o2 := oz.cell 2
    have o3 := oz.cell 3
    have o4 := oz.cell 4
    have o5 := oz.cell 5
    have o6 := oz.cell 6
    have o7 := oz.cell 7
    have o8 := oz.cell 8
    have o9 := oz.cell 9
    have o10 := oz.cell 10
    have o11 := oz.cell 11
    have o12 := oz.cell 12
    clear oz
    simp [zeroRc] at o0 o1 o2 o3 o4 o5 o6 o7 o8 o9 o10 o11 o12
    refine bodyPost_ret (v := .tuple #[.agg #[.int .i64 0, .int .i64 0, .int .i64 0, .int .i64 0, .int .i64 0, .int .i64 0, .int .i64 0, .int .i64 0, .int .i64 0, .int .u64 0, .int .u64 0, .int .u64 0, .int .u64 0], .int .i64 1]) (by simp [results, Try.results11, go_sem, o0, o1, o2, o3, o4, o5, o6, o7, o8, o9, o10, o11, o12]) rfl ⟨by rw [← HV.out, HN.out], HBP.out⟩
  | true =>
    have HVL := Lib.hid hv
    clear hv
    have c5 : w1.cell? ⟨w.heap.size, 5, none⟩ = some (.int .i64 r.fi) := HC1.out.rc.cell 5
    have c6 : w1.cell? ⟨w.heap.size, 6, none⟩ = some (.int .i64 r.la) := HC1.out.rc.cell 6
    go_wp2_with fail
    clear c5 c6
    refine (refEnergy_any o cap l r.fi r.la w1 (HR.out.later HC1.out.bel) hl).mono ?_
    rintro e w2 ⟨rfl, hb2⟩
    have HC2 := Lib.hid (HC1.out.later hb2)
    clear hb2 HC1 z0
    have z0 := HC2.out.out.lt
    cases he : enOk l r.fi r.la with
    | false =>
      rw [show enV l r.fi r.la = .tuple #[.int .i64 (enN l r.fi r.la), .int .i64 1] from by unfold enV; rw [he]; rfl]
      have HN := Lib.hid (clV_no (k := k) (show clOk r l = false by unfold clOk; rw [he, Bool.and_false]))
      have oz := HC2.out.out
      have o0 := oz.cell 0
      have o1 := oz.cell 1
      have o2 := oz.cell 2
      have o3 := oz.cell 3
      have o4 := oz.cell 4
      have o5 := oz.cell 5
      have o6 := oz.cell 6
      have o7 := oz.cell 7
      have o8 := oz.cell 8
      have o9 := oz.cell 9
      have o10 := oz.cell 10
      have o11 := oz.cell 11
      have o12 := oz.cell 12
      have f0 := oz.frozen 0
      have f1 := oz.frozen 1
      have f2 := oz.frozen 2
      have f3 := oz.frozen 3
      have f4 := oz.frozen 4
      have f5 := oz.frozen 5
      have f6 := oz.frozen 6
      have f7 := oz.frozen 7
      have f8 := oz.frozen 8
      have f9 := oz.frozen 9
      have f10 := oz.frozen 10
      have f11 := oz.frozen 11
      have f12 := oz.frozen 12
      clear oz
      simp [zeroRc] at o0 o1 o2 o3 o4 o5 o6 o7 o8 o9 o10 o11 o12
      go_wp2
      clear o0 o1 o2 o3 o4 o5 o6 o7 o8 o9 o10 o11 o12 f0 f1 f2 f3 f4 f5 f6 f7 f8 f9 f10 f11 f12
      have HP := Lib.hid (HC2.out.out.put zeroRc)
      have HBP := Lib.hid (below_putRc HC2.out.bel (show w.heap.size ≤ w.heap.size + 1 + 1 by omega) zeroRc)
      change bodyPost _ _ _ _ _ (putRc w2 (w.heap.size + 1 + 1) zeroRc)
      obtain ⟨W, hW⟩ : ∃ W, putRc w2 (w.heap.size + 1 + 1) zeroRc = W := ⟨_, rfl⟩
      rw [hW] at HP HBP ⊢
      clear hW
      have oz := HP.out
      have o0 := oz.cell 0
      have o1 := oz.cell 1
      have o2 := oz.cell 2
      have o3 := oz.cell 3
      have o4 := oz.cell 4
      have o5 := oz.cell 5
      have o6 := oz.cell 6
      have o7 := oz.cell 7
      have o8 := oz.cell 8
      have o9 := oz.cell 9
      have o10 := oz.cell 10
      have o11 := oz.cell 11
      have o12 := oz.cell 12
      clear oz
      simp [zeroRc] at o0 o1 o2 o3 o4 o5 o6 o7 o8 o9 o10 o11 o12
      refine bodyPost_ret (v := .tuple #[.agg #[.int .i64 0, .int .i64 0, .int .i64 0, .int .i64 0, .int .i64 0, .int .i64 0, .int .i64 0, .int .i64 0, .int .i64 0, .int .u64 0, .int .u64 0, .int .u64 0, .int .u64 0], .int .i64 1]) (by simp [results, Try.results11, go_sem, o0, o1, o2, o3, o4, o5, o6, o7, o8, o9, o10, o11, o12]) rfl ⟨by rw [← HV.out, HN.out], HBP.out⟩
    | true =>
      rw [show enV l r.fi r.la = .tuple #[.int .i64 (enN l r.fi r.la), .int .i64 0] from by unfold enV; rw [he]; rfl]
      have HN := Lib.hid (clV_yes (k := k) (show clOk r l = true by unfold clOk; rw [HVL.out, he]; rfl))
      clear he
      obtain ⟨N, hN⟩ : ∃ N, enN l r.fi r.la = N := ⟨_, rfl⟩
      rw [hN] at HN ⊢
      clear hN
      have f7 := HC2.out.rc.frozen 7
      have c7 : w2.cell? ⟨w.heap.size, 7, none⟩ = some (.int .i64 0) := HC2.out.rc.cell 7
      have HC3 := Lib.hid (HC2.out.set 7 (.int .i64 N) (RcB.setEn HC2.out.rc N))
      obtain ⟨k0, k1, k2, k3⟩ := HC3.out.ky.keys
      obtain ⟨k0', k1', k2', k3'⟩ := HC2.out.ky.keys
      go_wp2
      clear k0 k1 k2 k3 k0' k1' k2' k3' c7 f7
      obtain ⟨r1, hr1⟩ : ∃ r1 : Rc, { r with en := N } = r1 := ⟨_, rfl⟩
      rw [hr1] at HC3 HN
      clear hr1
      obtain ⟨w3, hw3⟩ : ∃ w3, w2.setCell ⟨w.heap.size, 7, none⟩ (.int .i64 N) = w3 := ⟨_, rfl⟩
      rw [hw3] at HC3 ⊢
      clear hw3 HC2
      go_loopw [10] (fun i wr => ∃ n : Nat, n ≤ 4 ∧ i = .int .i64 n ∧ ClSt w wr (sgd r1 k n) k) (fun i _ => 4 - (intOf i).toNat)
      case atStart => exact ⟨0, by omega, rfl, HC3.out⟩
      case round =>
        obtain ⟨n, hn, rfl, hc⟩ := hrel
        have HC := Lib.hid hc
        clear hc HC3
        rcases (by omega : n = 0 ∨ n = 1 ∨ n = 2 ∨ n = 3 ∨ n = 4) with rfl | rfl | rfl | rfl | rfl
        · rw [show ((0 : Nat) : Int) = 0 from rfl]
          have HS := Lib.hid (fun w' => rrefSign_any (sgd r1 k 0) k.k0 k.h0 w')
          rw [sig_sgd] at HS
          have HSG := Lib.hid (sgd_1 r1 k)
          obtain ⟨R, hR⟩ : ∃ R, sgd r1 k 0 = R := ⟨_, rfl⟩
          obtain ⟨G, hG⟩ : ∃ G, sig r1 k.k0 = G := ⟨_, rfl⟩
          rw [hR] at HC HS HSG
          rw [hG] at HS HSG
          clear hR hG
          go_wp2_with fail
          refine wp_region_B 8 (fun w'' => Below wr.heap.size wr w'') mixed (by kernel_rfl) (below_closed wr) (Below.refl _ _).drew ?_
          simp only [List.take_succ_cons, List.take_zero, List.drop_succ_cons, List.drop_zero]
          intro KR hR
          have HR := Lib.hid hR
          clear hR
          have HCC := Lib.hid (show ∀ w'', Below wr.heap.size wr w'' → w''.cell? ⟨w.heap.size, 0, none⟩ = some (.int .i64 R.se) ∧ w''.cell? ⟨w.heap.size, 1, none⟩ = some (.int .i64 R.ch) ∧ w''.cell? ⟨w.heap.size, 2, none⟩ = some (.int .i64 R.ca) ∧ w''.cell? ⟨w.heap.size, 3, none⟩ = some (.int .i64 R.ho) ∧ w''.cell? ⟨w.heap.size, 4, none⟩ = some (.int .i64 R.hs) ∧ w''.cell? ⟨w.heap.size, 5, none⟩ = some (.int .i64 R.fi) ∧ w''.cell? ⟨w.heap.size, 6, none⟩ = some (.int .i64 R.la) ∧ w''.cell? ⟨w.heap.size, 7, none⟩ = some (.int .i64 R.en) ∧ w''.cell? ⟨w.heap.size, 8, none⟩ = some (.int .i64 R.am) ∧ w''.cell? ⟨w.heap.size, 9, none⟩ = some (.int .u64 (R.g0 : Nat)) ∧ w''.cell? ⟨w.heap.size, 10, none⟩ = some (.int .u64 (R.g1 : Nat)) ∧ w''.cell? ⟨w.heap.size, 11, none⟩ = some (.int .u64 (R.g2 : Nat)) ∧ w''.cell? ⟨w.heap.size, 12, none⟩ = some (.int .u64 (R.g3 : Nat)) ∧ w''.cell? ⟨w.heap.size + 1, 0, none⟩ = some (.int .u64 (k.k0 : Nat)) from fun w'' hw => ⟨(HC.out.later hw).rc.cell 0, (HC.out.later hw).rc.cell 1, (HC.out.later hw).rc.cell 2, (HC.out.later hw).rc.cell 3, (HC.out.later hw).rc.cell 4, (HC.out.later hw).rc.cell 5, (HC.out.later hw).rc.cell 6, (HC.out.later hw).rc.cell 7, (HC.out.later hw).rc.cell 8, (HC.out.later hw).rc.cell 9, (HC.out.later hw).rc.cell 10, (HC.out.later hw).rc.cell 11, (HC.out.later hw).rc.cell 12, (HC.out.later hw).ky.cell 0⟩)
          ((with_reducible refine wpB_move ?_ ?_); exact rfl; simp only [Act.put, List.setIfInBounds_toArray, List.set_cons_zero, List.set_cons_succ])
          apply wpB_val rfl
          · (intro w' hw'; obtain ⟨c0, c1, c2, c3, c4, c5, c6, c7, c8, c9, c10, c11, c12, c13⟩ := HCC.out w' hw'; go_simp; with_reducible rfl)
          simp only [Act.put, List.setIfInBounds_toArray, List.set_cons_zero, List.set_cons_succ]
          ((with_reducible refine wpB_move ?_ ?_); exact rfl; simp only [Act.put, List.setIfInBounds_toArray, List.set_cons_zero, List.set_cons_succ])
          apply wpB_val rfl
          · (intro w' hw'; obtain ⟨c0, c1, c2, c3, c4, c5, c6, c7, c8, c9, c10, c11, c12, c13⟩ := HCC.out w' hw'; go_simp; with_reducible rfl)
          simp only [Act.put, List.setIfInBounds_toArray, List.set_cons_zero, List.set_cons_succ]
          apply wpB_val rfl
          · (intro w' hw'; obtain ⟨c0, c1, c2, c3, c4, c5, c6, c7, c8, c9, c10, c11, c12, c13⟩ := HCC.out w' hw'; go_simp; with_reducible rfl)
          simp only [Act.put, List.setIfInBounds_toArray, List.set_cons_zero, List.set_cons_succ]
          apply wpB_call 13 #[recV R, .int .u64 (k.k0 : Nat)] rfl (v := _)
          · (intro w'; go_simp)
          · exact fun w' hw' => HS.out w'
          simp only [Act.put, List.setIfInBounds_toArray, List.set_cons_zero, List.set_cons_succ]
          apply wpB_val rfl
          · (intro w' hw'; obtain ⟨c0, c1, c2, c3, c4, c5, c6, c7, c8, c9, c10, c11, c12, c13⟩ := HCC.out w' hw'; go_simp; with_reducible rfl)
          simp only [Act.put, List.setIfInBounds_toArray, List.set_cons_zero, List.set_cons_succ]
          apply wpB_val rfl
          · (intro w' hw'; obtain ⟨c0, c1, c2, c3, c4, c5, c6, c7, c8, c9, c10, c11, c12, c13⟩ := HCC.out w' hw'; go_simp; with_reducible rfl)
          simp only [Act.put, List.setIfInBounds_toArray, List.set_cons_zero, List.set_cons_succ]
          refine wpB_nil (HR.out _ (fun w2 hw2 => ?_))
          clear HR HCC
          have HC4 := Lib.hid (HC.out.later hw2)
          clear hw2
          skip
          obtain ⟨d9, d10, d11, d12⟩ := HC4.out.rc.signs
          have f9 := HC4.out.rc.frozen 9
          have HC5 := Lib.hid (HC4.out.set 9 (.int .u64 (G : Nat)) (RcB.setG0 HC4.out.rc G))
          go_wp2
          clear d9 d10 d11 d12 f9
          go_roundw
          case rel => exact ⟨1, by omega, rfl, by rw [HSG.out]; exact HC5.out⟩
          case measure => simp [intOf]
        · rw [show ((1 : Nat) : Int) = 1 from rfl]
          have HS := Lib.hid (fun w' => rrefSign_any (sgd r1 k 1) k.k1 k.h1 w')
          rw [sig_sgd] at HS
          have HSG := Lib.hid (sgd_2 r1 k)
          obtain ⟨R, hR⟩ : ∃ R, sgd r1 k 1 = R := ⟨_, rfl⟩
          obtain ⟨G, hG⟩ : ∃ G, sig r1 k.k1 = G := ⟨_, rfl⟩
          rw [hR] at HC HS HSG
          rw [hG] at HS HSG
          clear hR hG
          go_wp2_with fail
          refine wp_region_B 8 (fun w'' => Below wr.heap.size wr w'') mixed (by kernel_rfl) (below_closed wr) (Below.refl _ _).drew ?_
          simp only [List.take_succ_cons, List.take_zero, List.drop_succ_cons, List.drop_zero]
          intro KR hR
          have HR := Lib.hid hR
          clear hR
          have HCC := Lib.hid (show ∀ w'', Below wr.heap.size wr w'' → w''.cell? ⟨w.heap.size, 0, none⟩ = some (.int .i64 R.se) ∧ w''.cell? ⟨w.heap.size, 1, none⟩ = some (.int .i64 R.ch) ∧ w''.cell? ⟨w.heap.size, 2, none⟩ = some (.int .i64 R.ca) ∧ w''.cell? ⟨w.heap.size, 3, none⟩ = some (.int .i64 R.ho) ∧ w''.cell? ⟨w.heap.size, 4, none⟩ = some (.int .i64 R.hs) ∧ w''.cell? ⟨w.heap.size, 5, none⟩ = some (.int .i64 R.fi) ∧ w''.cell? ⟨w.heap.size, 6, none⟩ = some (.int .i64 R.la) ∧ w''.cell? ⟨w.heap.size, 7, none⟩ = some (.int .i64 R.en) ∧ w''.cell? ⟨w.heap.size, 8, none⟩ = some (.int .i64 R.am) ∧ w''.cell? ⟨w.heap.size, 9, none⟩ = some (.int .u64 (R.g0 : Nat)) ∧ w''.cell? ⟨w.heap.size, 10, none⟩ = some (.int .u64 (R.g1 : Nat)) ∧ w''.cell? ⟨w.heap.size, 11, none⟩ = some (.int .u64 (R.g2 : Nat)) ∧ w''.cell? ⟨w.heap.size, 12, none⟩ = some (.int .u64 (R.g3 : Nat)) ∧ w''.cell? ⟨w.heap.size + 1, 1, none⟩ = some (.int .u64 (k.k1 : Nat)) from fun w'' hw => ⟨(HC.out.later hw).rc.cell 0, (HC.out.later hw).rc.cell 1, (HC.out.later hw).rc.cell 2, (HC.out.later hw).rc.cell 3, (HC.out.later hw).rc.cell 4, (HC.out.later hw).rc.cell 5, (HC.out.later hw).rc.cell 6, (HC.out.later hw).rc.cell 7, (HC.out.later hw).rc.cell 8, (HC.out.later hw).rc.cell 9, (HC.out.later hw).rc.cell 10, (HC.out.later hw).rc.cell 11, (HC.out.later hw).rc.cell 12, (HC.out.later hw).ky.cell 1⟩)
          ((with_reducible refine wpB_move ?_ ?_); exact rfl; simp only [Act.put, List.setIfInBounds_toArray, List.set_cons_zero, List.set_cons_succ])
          apply wpB_val rfl
          · (intro w' hw'; obtain ⟨c0, c1, c2, c3, c4, c5, c6, c7, c8, c9, c10, c11, c12, c13⟩ := HCC.out w' hw'; go_simp; with_reducible rfl)
          simp only [Act.put, List.setIfInBounds_toArray, List.set_cons_zero, List.set_cons_succ]
          ((with_reducible refine wpB_move ?_ ?_); exact rfl; simp only [Act.put, List.setIfInBounds_toArray, List.set_cons_zero, List.set_cons_succ])
          apply wpB_val rfl
          · (intro w' hw'; obtain ⟨c0, c1, c2, c3, c4, c5, c6, c7, c8, c9, c10, c11, c12, c13⟩ := HCC.out w' hw'; go_simp; with_reducible rfl)
          simp only [Act.put, List.setIfInBounds_toArray, List.set_cons_zero, List.set_cons_succ]
          apply wpB_val rfl
          · (intro w' hw'; obtain ⟨c0, c1, c2, c3, c4, c5, c6, c7, c8, c9, c10, c11, c12, c13⟩ := HCC.out w' hw'; go_simp; with_reducible rfl)
          simp only [Act.put, List.setIfInBounds_toArray, List.set_cons_zero, List.set_cons_succ]
          apply wpB_call 13 #[recV R, .int .u64 (k.k1 : Nat)] rfl (v := _)
          · (intro w'; go_simp)
          · exact fun w' hw' => HS.out w'
          simp only [Act.put, List.setIfInBounds_toArray, List.set_cons_zero, List.set_cons_succ]
          apply wpB_val rfl
          · (intro w' hw'; obtain ⟨c0, c1, c2, c3, c4, c5, c6, c7, c8, c9, c10, c11, c12, c13⟩ := HCC.out w' hw'; go_simp; with_reducible rfl)
          simp only [Act.put, List.setIfInBounds_toArray, List.set_cons_zero, List.set_cons_succ]
          apply wpB_val rfl
          · (intro w' hw'; obtain ⟨c0, c1, c2, c3, c4, c5, c6, c7, c8, c9, c10, c11, c12, c13⟩ := HCC.out w' hw'; go_simp; with_reducible rfl)
          simp only [Act.put, List.setIfInBounds_toArray, List.set_cons_zero, List.set_cons_succ]
          refine wpB_nil (HR.out _ (fun w2 hw2 => ?_))
          clear HR HCC
          have HC4 := Lib.hid (HC.out.later hw2)
          clear hw2
          skip
          obtain ⟨d9, d10, d11, d12⟩ := HC4.out.rc.signs
          have f10 := HC4.out.rc.frozen 10
          have HC5 := Lib.hid (HC4.out.set 10 (.int .u64 (G : Nat)) (RcB.setG1 HC4.out.rc G))
          go_wp2
          clear d9 d10 d11 d12 f10
          go_roundw
          case rel => exact ⟨2, by omega, rfl, by rw [HSG.out]; exact HC5.out⟩
          case measure => simp [intOf]
        · rw [show ((2 : Nat) : Int) = 2 from rfl]
          have HS := Lib.hid (fun w' => rrefSign_any (sgd r1 k 2) k.k2 k.h2 w')
          rw [sig_sgd] at HS
          have HSG := Lib.hid (sgd_3 r1 k)
          obtain ⟨R, hR⟩ : ∃ R, sgd r1 k 2 = R := ⟨_, rfl⟩
          obtain ⟨G, hG⟩ : ∃ G, sig r1 k.k2 = G := ⟨_, rfl⟩
          rw [hR] at HC HS HSG
          rw [hG] at HS HSG
          clear hR hG
          go_wp2_with fail
          refine wp_region_B 8 (fun w'' => Below wr.heap.size wr w'') mixed (by kernel_rfl) (below_closed wr) (Below.refl _ _).drew ?_
          simp only [List.take_succ_cons, List.take_zero, List.drop_succ_cons, List.drop_zero]
          intro KR hR
          have HR := Lib.hid hR
          clear hR
          have HCC := Lib.hid (show ∀ w'', Below wr.heap.size wr w'' → w''.cell? ⟨w.heap.size, 0, none⟩ = some (.int .i64 R.se) ∧ w''.cell? ⟨w.heap.size, 1, none⟩ = some (.int .i64 R.ch) ∧ w''.cell? ⟨w.heap.size, 2, none⟩ = some (.int .i64 R.ca) ∧ w''.cell? ⟨w.heap.size, 3, none⟩ = some (.int .i64 R.ho) ∧ w''.cell? ⟨w.heap.size, 4, none⟩ = some (.int .i64 R.hs) ∧ w''.cell? ⟨w.heap.size, 5, none⟩ = some (.int .i64 R.fi) ∧ w''.cell? ⟨w.heap.size, 6, none⟩ = some (.int .i64 R.la) ∧ w''.cell? ⟨w.heap.size, 7, none⟩ = some (.int .i64 R.en) ∧ w''.cell? ⟨w.heap.size, 8, none⟩ = some (.int .i64 R.am) ∧ w''.cell? ⟨w.heap.size, 9, none⟩ = some (.int .u64 (R.g0 : Nat)) ∧ w''.cell? ⟨w.heap.size, 10, none⟩ = some (.int .u64 (R.g1 : Nat)) ∧ w''.cell? ⟨w.heap.size, 11, none⟩ = some (.int .u64 (R.g2 : Nat)) ∧ w''.cell? ⟨w.heap.size, 12, none⟩ = some (.int .u64 (R.g3 : Nat)) ∧ w''.cell? ⟨w.heap.size + 1, 2, none⟩ = some (.int .u64 (k.k2 : Nat)) from fun w'' hw => ⟨(HC.out.later hw).rc.cell 0, (HC.out.later hw).rc.cell 1, (HC.out.later hw).rc.cell 2, (HC.out.later hw).rc.cell 3, (HC.out.later hw).rc.cell 4, (HC.out.later hw).rc.cell 5, (HC.out.later hw).rc.cell 6, (HC.out.later hw).rc.cell 7, (HC.out.later hw).rc.cell 8, (HC.out.later hw).rc.cell 9, (HC.out.later hw).rc.cell 10, (HC.out.later hw).rc.cell 11, (HC.out.later hw).rc.cell 12, (HC.out.later hw).ky.cell 2⟩)
          ((with_reducible refine wpB_move ?_ ?_); exact rfl; simp only [Act.put, List.setIfInBounds_toArray, List.set_cons_zero, List.set_cons_succ])
          apply wpB_val rfl
          · (intro w' hw'; obtain ⟨c0, c1, c2, c3, c4, c5, c6, c7, c8, c9, c10, c11, c12, c13⟩ := HCC.out w' hw'; go_simp; with_reducible rfl)
          simp only [Act.put, List.setIfInBounds_toArray, List.set_cons_zero, List.set_cons_succ]
          ((with_reducible refine wpB_move ?_ ?_); exact rfl; simp only [Act.put, List.setIfInBounds_toArray, List.set_cons_zero, List.set_cons_succ])
          apply wpB_val rfl
          · (intro w' hw'; obtain ⟨c0, c1, c2, c3, c4, c5, c6, c7, c8, c9, c10, c11, c12, c13⟩ := HCC.out w' hw'; go_simp; with_reducible rfl)
          simp only [Act.put, List.setIfInBounds_toArray, List.set_cons_zero, List.set_cons_succ]
          apply wpB_val rfl
          · (intro w' hw'; obtain ⟨c0, c1, c2, c3, c4, c5, c6, c7, c8, c9, c10, c11, c12, c13⟩ := HCC.out w' hw'; go_simp; with_reducible rfl)
          simp only [Act.put, List.setIfInBounds_toArray, List.set_cons_zero, List.set_cons_succ]
          apply wpB_call 13 #[recV R, .int .u64 (k.k2 : Nat)] rfl (v := _)
          · (intro w'; go_simp)
          · exact fun w' hw' => HS.out w'
          simp only [Act.put, List.setIfInBounds_toArray, List.set_cons_zero, List.set_cons_succ]
          apply wpB_val rfl
          · (intro w' hw'; obtain ⟨c0, c1, c2, c3, c4, c5, c6, c7, c8, c9, c10, c11, c12, c13⟩ := HCC.out w' hw'; go_simp; with_reducible rfl)
          simp only [Act.put, List.setIfInBounds_toArray, List.set_cons_zero, List.set_cons_succ]
          apply wpB_val rfl
          · (intro w' hw'; obtain ⟨c0, c1, c2, c3, c4, c5, c6, c7, c8, c9, c10, c11, c12, c13⟩ := HCC.out w' hw'; go_simp; with_reducible rfl)
          simp only [Act.put, List.setIfInBounds_toArray, List.set_cons_zero, List.set_cons_succ]
          refine wpB_nil (HR.out _ (fun w2 hw2 => ?_))
          clear HR HCC
          have HC4 := Lib.hid (HC.out.later hw2)
          clear hw2
          skip
          obtain ⟨d9, d10, d11, d12⟩ := HC4.out.rc.signs
          have f11 := HC4.out.rc.frozen 11
          have HC5 := Lib.hid (HC4.out.set 11 (.int .u64 (G : Nat)) (RcB.setG2 HC4.out.rc G))
          go_wp2
          clear d9 d10 d11 d12 f11
          go_roundw
          case rel => exact ⟨3, by omega, rfl, by rw [HSG.out]; exact HC5.out⟩
          case measure => simp [intOf]
        · rw [show ((3 : Nat) : Int) = 3 from rfl]
          have HS := Lib.hid (fun w' => rrefSign_any (sgd r1 k 3) k.k3 k.h3 w')
          rw [sig_sgd] at HS
          have HSG := Lib.hid (sgd_4 r1 k)
          obtain ⟨R, hR⟩ : ∃ R, sgd r1 k 3 = R := ⟨_, rfl⟩
          obtain ⟨G, hG⟩ : ∃ G, sig r1 k.k3 = G := ⟨_, rfl⟩
          rw [hR] at HC HS HSG
          rw [hG] at HS HSG
          clear hR hG
          go_wp2_with fail
          refine wp_region_B 8 (fun w'' => Below wr.heap.size wr w'') mixed (by kernel_rfl) (below_closed wr) (Below.refl _ _).drew ?_
          simp only [List.take_succ_cons, List.take_zero, List.drop_succ_cons, List.drop_zero]
          intro KR hR
          have HR := Lib.hid hR
          clear hR
          have HCC := Lib.hid (show ∀ w'', Below wr.heap.size wr w'' → w''.cell? ⟨w.heap.size, 0, none⟩ = some (.int .i64 R.se) ∧ w''.cell? ⟨w.heap.size, 1, none⟩ = some (.int .i64 R.ch) ∧ w''.cell? ⟨w.heap.size, 2, none⟩ = some (.int .i64 R.ca) ∧ w''.cell? ⟨w.heap.size, 3, none⟩ = some (.int .i64 R.ho) ∧ w''.cell? ⟨w.heap.size, 4, none⟩ = some (.int .i64 R.hs) ∧ w''.cell? ⟨w.heap.size, 5, none⟩ = some (.int .i64 R.fi) ∧ w''.cell? ⟨w.heap.size, 6, none⟩ = some (.int .i64 R.la) ∧ w''.cell? ⟨w.heap.size, 7, none⟩ = some (.int .i64 R.en) ∧ w''.cell? ⟨w.heap.size, 8, none⟩ = some (.int .i64 R.am) ∧ w''.cell? ⟨w.heap.size, 9, none⟩ = some (.int .u64 (R.g0 : Nat)) ∧ w''.cell? ⟨w.heap.size, 10, none⟩ = some (.int .u64 (R.g1 : Nat)) ∧ w''.cell? ⟨w.heap.size, 11, none⟩ = some (.int .u64 (R.g2 : Nat)) ∧ w''.cell? ⟨w.heap.size, 12, none⟩ = some (.int .u64 (R.g3 : Nat)) ∧ w''.cell? ⟨w.heap.size + 1, 3, none⟩ = some (.int .u64 (k.k3 : Nat)) from fun w'' hw => ⟨(HC.out.later hw).rc.cell 0, (HC.out.later hw).rc.cell 1, (HC.out.later hw).rc.cell 2, (HC.out.later hw).rc.cell 3, (HC.out.later hw).rc.cell 4, (HC.out.later hw).rc.cell 5, (HC.out.later hw).rc.cell 6, (HC.out.later hw).rc.cell 7, (HC.out.later hw).rc.cell 8, (HC.out.later hw).rc.cell 9, (HC.out.later hw).rc.cell 10, (HC.out.later hw).rc.cell 11, (HC.out.later hw).rc.cell 12, (HC.out.later hw).ky.cell 3⟩)
          ((with_reducible refine wpB_move ?_ ?_); exact rfl; simp only [Act.put, List.setIfInBounds_toArray, List.set_cons_zero, List.set_cons_succ])
          apply wpB_val rfl
          · (intro w' hw'; obtain ⟨c0, c1, c2, c3, c4, c5, c6, c7, c8, c9, c10, c11, c12, c13⟩ := HCC.out w' hw'; go_simp; with_reducible rfl)
          simp only [Act.put, List.setIfInBounds_toArray, List.set_cons_zero, List.set_cons_succ]
          ((with_reducible refine wpB_move ?_ ?_); exact rfl; simp only [Act.put, List.setIfInBounds_toArray, List.set_cons_zero, List.set_cons_succ])
          apply wpB_val rfl
          · (intro w' hw'; obtain ⟨c0, c1, c2, c3, c4, c5, c6, c7, c8, c9, c10, c11, c12, c13⟩ := HCC.out w' hw'; go_simp; with_reducible rfl)
          simp only [Act.put, List.setIfInBounds_toArray, List.set_cons_zero, List.set_cons_succ]
          apply wpB_val rfl
          · (intro w' hw'; obtain ⟨c0, c1, c2, c3, c4, c5, c6, c7, c8, c9, c10, c11, c12, c13⟩ := HCC.out w' hw'; go_simp; with_reducible rfl)
          simp only [Act.put, List.setIfInBounds_toArray, List.set_cons_zero, List.set_cons_succ]
          apply wpB_call 13 #[recV R, .int .u64 (k.k3 : Nat)] rfl (v := _)
          · (intro w'; go_simp)
          · exact fun w' hw' => HS.out w'
          simp only [Act.put, List.setIfInBounds_toArray, List.set_cons_zero, List.set_cons_succ]
          apply wpB_val rfl
          · (intro w' hw'; obtain ⟨c0, c1, c2, c3, c4, c5, c6, c7, c8, c9, c10, c11, c12, c13⟩ := HCC.out w' hw'; go_simp; with_reducible rfl)
          simp only [Act.put, List.setIfInBounds_toArray, List.set_cons_zero, List.set_cons_succ]
          apply wpB_val rfl
          · (intro w' hw'; obtain ⟨c0, c1, c2, c3, c4, c5, c6, c7, c8, c9, c10, c11, c12, c13⟩ := HCC.out w' hw'; go_simp; with_reducible rfl)
          simp only [Act.put, List.setIfInBounds_toArray, List.set_cons_zero, List.set_cons_succ]
          refine wpB_nil (HR.out _ (fun w2 hw2 => ?_))
          clear HR HCC
          have HC4 := Lib.hid (HC.out.later hw2)
          clear hw2
          skip
          obtain ⟨d9, d10, d11, d12⟩ := HC4.out.rc.signs
          have f12 := HC4.out.rc.frozen 12
          have HC5 := Lib.hid (HC4.out.set 12 (.int .u64 (G : Nat)) (RcB.setG3 HC4.out.rc G))
          go_wp2
          clear d9 d10 d11 d12 f12
          go_roundw
          case rel => exact ⟨4, by omega, rfl, by rw [HSG.out]; exact HC5.out⟩
          case measure => simp [intOf]
        · rw [show ((4 : Nat) : Int) = 4 from rfl]
          obtain ⟨R, hR⟩ : ∃ R, sgd r1 k 4 = R := ⟨_, rfl⟩
          rw [hR] at HC HN
          clear hR
          obtain ⟨c0, c1, c2, c3, c4, c5, c6, c7, c8⟩ := HC.out.rc.nums
          obtain ⟨c9, c10, c11, c12⟩ := HC.out.rc.signs
          have oz := HC.out.out
          have o0 := oz.cell 0
          have o1 := oz.cell 1
          have o2 := oz.cell 2
          have o3 := oz.cell 3
          have o4 := oz.cell 4
          have o5 := oz.cell 5
          have o6 := oz.cell 6
          have o7 := oz.cell 7
          have o8 := oz.cell 8
          have o9 := oz.cell 9
          have o10 := oz.cell 10
          have o11 := oz.cell 11
          have o12 := oz.cell 12
          have f0 := oz.frozen 0
          have f1 := oz.frozen 1
          have f2 := oz.frozen 2
          have f3 := oz.frozen 3
          have f4 := oz.frozen 4
          have f5 := oz.frozen 5
          have f6 := oz.frozen 6
          have f7 := oz.frozen 7
          have f8 := oz.frozen 8
          have f9 := oz.frozen 9
          have f10 := oz.frozen 10
          have f11 := oz.frozen 11
          have f12 := oz.frozen 12
          clear oz
          simp [zeroRc] at o0 o1 o2 o3 o4 o5 o6 o7 o8 o9 o10 o11 o12
          go_wp2
          clear o0 o1 o2 o3 o4 o5 o6 o7 o8 o9 o10 o11 o12 f0 f1 f2 f3 f4 f5 f6 f7 f8 f9 f10 f11 f12 c0 c1 c2 c3 c4 c5 c6 c7 c8 c9 c10 c11 c12
          have HP := Lib.hid (HC.out.out.put R)
          have HBP := Lib.hid (below_putRc HC.out.bel (show w.heap.size ≤ w.heap.size + 1 + 1 by omega) R)
          change bodyPost _ _ _ _ _ (putRc wr (w.heap.size + 1 + 1) R)
          obtain ⟨W, hW⟩ : ∃ W, putRc wr (w.heap.size + 1 + 1) R = W := ⟨_, rfl⟩
          rw [hW] at HP HBP ⊢
          clear hW
          obtain ⟨c0, c1, c2, c3, c4, c5, c6, c7, c8⟩ := HP.out.nums
          obtain ⟨c9, c10, c11, c12⟩ := HP.out.signs
          exact bodyPost_ret (v := .tuple #[recV R, .int .i64 0]) (by simp [results, Try.results11, go_sem, c0, c1, c2, c3, c4, c5, c6, c7, c8, c9, c10, c11, c12]) rfl ⟨by rw [← HV.out, HN.out], HBP.out⟩
end Go.Proofs.Ytddbobphmakmmaa
