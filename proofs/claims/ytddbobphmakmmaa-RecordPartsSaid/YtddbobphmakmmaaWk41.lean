/- Chapter 41: RecordClosed. -/
import Derived.Test.YtddbobphmakmmaaWj41
import Derived.Deep.Cut
namespace Go.Proofs.Ytddbobphmakmmaa
open Go.RowKit
attribute [local go_sem] Oper.semAt_some

theorem chkC_sgd {r : Rc} {k : K4} (hv : validC r = true) : chkC (sgd r k 4) k = -1 := by
  have e : ∀ z, sig (sgd r k 4) z = sig r z := fun z => sig_sgd r k z 4
  have hv' : validC (sgd r k 4) = true := by
    have : validC (sgd r k 4) = validC r := by simp only [validC, sgd]
    rw [this, hv]
  refine chkC_all hv' ⟨fun _ => ?_, fun _ => ?_, fun _ => ?_, fun _ => ?_⟩
  all_goals
    rw [e]
    simp only [sgd]

/-- What is closed is valid. -/
theorem closed_valid {r : Rc} {l : List Rd} (hv : validC (enZero r) = true) (he : enOk l r.fi r.la = true) : validC { r with en := enN l r.fi r.la } = true := by
  have ho : ordered l = true := by
    unfold enOk at he
    rw [Bool.and_eq_true] at he
    exact he.1
  have hb : 1 ≤ r.fi ∧ r.fi ≤ r.la ∧ r.la ≤ (l.length : Int) := by
    unfold enOk at he
    rw [Bool.and_eq_true, decide_eq_true_eq] at he
    exact he.2
  have hle := ordered_le ho
  have hn := energy_nonneg ho (a := r.fi.toNat) (by omega) (d := (r.la - r.fi).toNat) (by omega)
  have e : enN l r.fi r.la = energy l r.fi.toNat (r.la - r.fi).toNat := by unfold enN; rw [he]; rfl
  unfold validC enZero at hv
  unfold validC
  simp only [decide_eq_true_eq] at hv ⊢
  refine ⟨hv.1, hv.2.1, hv.2.2.1, hv.2.2.2.1, hv.2.2.2.2.1, hv.2.2.2.2.2.1, hv.2.2.2.2.2.2.1, ?_, hv.2.2.2.2.2.2.2.2⟩
  rw [e]
  have h64 : ((r.la - r.fi).toNat : Int) ≤ 63 := by omega
  have := hn.2
  omega

theorem RcB.setEn' {wr : World} {B : Nat} {r : Rc} (h : RcB wr B r) (N : Int) : RcB (wr.setCell ⟨B, 7, none⟩ (.int .i64 N)) B { r with en := N } := by
  have := Blk.set h 7 (.int .i64 N)
  simpa [RcB] using this

set_option maxRecDepth 100000 in
set_option maxHeartbeats 8000000 in
theorem recordClosed_any (r : Rc) (o : Option Addr) (cap : Nat) (l : List Rd) (k : K4) (w : World) (hr : Rds w o l) (hl : l.length ≤ 9223372036854775807) :
    Calls Try.prog 4 #[recV r, .slice o l.length cap, keyV k] w (Ret (.bool true) w) := by
  have HR := Lib.hid hr
  clear hr
  go_enter Try.func4, Try.ntmps4
  go_wp2_with fail
  refine (head_any _).mono ?_
  rintro e w1 ⟨rfl, hb1⟩
  have HTB := Lib.hid (two_boxes w r k hb1)
  have HX := Lib.hid HTB.out.1
  have HK := Lib.hid HTB.out.2.1
  have HB := Lib.hid HTB.out.2.2
  clear hb1 HTB
  by_cases h80 : 80 < l.length
  · go_wp2_with fail
    go_ret
    exact ⟨rfl, HB.out⟩
  obtain ⟨c0, c1, c2, c3, c4, c5, c6, c7, c8⟩ := HX.out.nums
  obtain ⟨c9, c10, c11, c12⟩ := HX.out.signs
  obtain ⟨k0, k1, k2, k3⟩ := HK.out.keys
  go_wp2_with fail
  clear c0 c1 c2 c3 c4 c5 c6 c7 c8 c9 c10 c11 c12 k0 k1 k2 k3
  refine (rClose_any r o cap l k w1 (HR.out.later HB.out) hl).mono ?_
  rintro e w2 ⟨rfl, hb2⟩
  have HX2 := Lib.hid (HX.out.later hb2)
  have HK2 := Lib.hid (HK.out.later hb2)
  have HB2 := Lib.hid (below_step HB.out hb2)
  clear hb2 HX HK HB
  have zz := HK2.out.lt
  have zy := HX2.out.lt
  rw [show clV r l k = .tuple #[recV (clRec r l k), .int .i64 (if clOk r l then 0 else 1)] from rfl]
  obtain ⟨c0, c1, c2, c3, c4, c5, c6, c7, c8⟩ := HX2.out.nums
  have HRZ := Lib.hid (fun h : clOk r l = false => show clRec r l k = zeroRc by unfold clRec; rw [h]; rfl)
  have HRY := Lib.hid (fun h : clOk r l = true => show clRec r l k = sgd { r with en := enN l r.fi r.la } k 4 by unfold clRec; rw [h]; rfl)
  obtain ⟨R, hR⟩ : ∃ R, clRec r l k = R := ⟨_, rfl⟩
  obtain ⟨E, hE⟩ : ∃ E, (if clOk r l then (0 : Int) else 1) = E := ⟨_, rfl⟩
  rw [hR] at HRZ HRY
  rw [hR, hE]
  have HE := Lib.hid hE
  clear hR hE
  go_wp2_with fail
  clear c0 c1 c2 c3 c4 c5 c6 c7 c8
  refine (Energy_any o cap l r.fi r.la _ ((HR.out.later HB2.out).later (below_alloc (Below.refl _ _) _)) hl).mono ?_
  rintro e w3 ⟨rfl, hb3⟩
  have HA3 := Lib.hid ((RcB.new w2 R).later hb3)
  have HX3 := Lib.hid ((HX2.out.later (below_alloc (Below.refl _ _) _)).later hb3)
  have HK3 := Lib.hid ((HK2.out.later (below_alloc (Below.refl _ _) _)).later hb3)
  have HB3 := Lib.hid (below_step (below_alloc HB2.out _) hb3)
  clear hb3 HX2 HK2
  have HEV := Lib.hid (show enV l r.fi r.la = .tuple #[.int .i64 (enN l r.fi r.la), .int .i64 (if enOk l r.fi r.la then 0 else 1)] from rfl)
  rw [HEV.out]
  obtain ⟨N, hN⟩ : ∃ N, enN l r.fi r.la = N := ⟨_, rfl⟩
  obtain ⟨G, hG⟩ : ∃ G, (if enOk l r.fi r.la then (0 : Int) else 1) = G := ⟨_, rfl⟩
  rw [hN] at HRY ⊢
  rw [hG]
  have HG := Lib.hid hG
  have HN := Lib.hid hN
  clear hN hG HEV
  obtain ⟨c0, c1, c2, c3, c4, c5, c6, c7, c8⟩ := HX3.out.nums
  obtain ⟨c9, c10, c11, c12⟩ := HX3.out.signs
  have f7 := HX3.out.frozen 7
  go_wp2_with fail
  clear c0 c1 c2 c3 c4 c5 c6 c7 c8 c9 c10 c11 c12 f7
  have hsz : w.heap.size ≠ w2.heap.size := by omega
  obtain ⟨X, hX⟩ : ∃ X, w3.setCell ⟨w.heap.size, 7, none⟩ (.int .i64 0) = X := ⟨_, rfl⟩
  have HXX := Lib.hid (show RcB X w.heap.size (enZero r) by
    rw [← hX]
    have := Blk.set HX3.out 7 (.int .i64 0)
    simpa [RcB, enZero] using this)
  have HXA := Lib.hid (show RcB X w2.heap.size R by rw [← hX]; exact Blk.other HA3.out (Ne.symm hsz) _)
  have HXK := Lib.hid (show KyB X (w.heap.size + 1) k by rw [← hX]; exact Blk.other HK3.out (by simp) _)
  have HXB := Lib.hid (show Below w.heap.size w X by rw [← hX]; exact HB3.out.setCell (Nat.le_refl _) _)
  rw [hX]
  clear hX HX3 HA3 HK3 HB3
  refine (rrefValid_any (enZero r) X).mono ?_
  rintro e w5 ⟨rfl, hb5⟩
  have HX5 := Lib.hid (HXX.out.later hb5)
  have HA5 := Lib.hid (HXA.out.later hb5)
  have HK5 := Lib.hid (HXK.out.later hb5)
  have HB5 := Lib.hid (below_step HXB.out hb5)
  clear hb5 HXX HXA HXK HXB
  have heq0 : ∀ w, (binOp .eql 25 (.agg #[.int .i64 0, .int .i64 0, .int .i64 0, .int .i64 0, .int .i64 0, .int .i64 0, .int .i64 0, .int .i64 0, .int .i64 0, .int .u64 0, .int .u64 0, .int .u64 0, .int .u64 0]) (.agg #[.int .i64 0, .int .i64 0, .int .i64 0, .int .i64 0, .int .i64 0, .int .i64 0, .int .i64 0, .int .i64 0, .int .i64 0, .int .u64 0, .int .u64 0, .int .u64 0, .int .u64 0])).run Try.prog w = .ok (.bool true) w := run_eql_rc zeroRc
  have heq1 : ∀ w, (binOp .eql 25 (.agg #[.int .i64 r.se, .int .i64 r.ch, .int .i64 r.ca, .int .i64 r.ho, .int .i64 r.hs, .int .i64 r.fi, .int .i64 r.la, .int .i64 0, .int .i64 r.am, .int .u64 (r.g0 : Nat), .int .u64 (r.g1 : Nat), .int .u64 (r.g2 : Nat), .int .u64 (r.g3 : Nat)]) (.agg #[.int .i64 r.se, .int .i64 r.ch, .int .i64 r.ca, .int .i64 r.ho, .int .i64 r.hs, .int .i64 r.fi, .int .i64 r.la, .int .i64 0, .int .i64 r.am, .int .u64 (r.g0 : Nat), .int .u64 (r.g1 : Nat), .int .u64 (r.g2 : Nat), .int .u64 (r.g3 : Nat)])).run Try.prog w = .ok (.bool true) w := run_eql_rc (enZero r)
  have HQ0 := Lib.hid heq0
  have HQ1 := Lib.hid heq1
  clear heq0 heq1
  cases hv : validC (enZero r) with
  | false =>
    have hno : clOk r l = false := by unfold clOk; rw [hv]; rfl
    obtain rfl : R = zeroRc := HRZ.out hno
    obtain rfl : (1 : Int) = E := by rw [← HE.out, hno]; rfl
    clear hno hv
    obtain ⟨c0, c1, c2, c3, c4, c5, c6, c7, c8⟩ := HA5.out.nums
    obtain ⟨c9, c10, c11, c12⟩ := HA5.out.signs
    simp [zeroRc] at c0 c1 c2 c3 c4 c5 c6 c7 c8 c9 c10 c11 c12
    have heq := HQ0.out
    go_wp2
    go_ret
    exact ⟨rfl, HB5.out⟩
  | true =>
    cases he : enOk l r.fi r.la with
    | false =>
      have hno : clOk r l = false := by unfold clOk; rw [he, Bool.and_false]
      obtain rfl : R = zeroRc := HRZ.out hno
      obtain rfl : (1 : Int) = E := by rw [← HE.out, hno]; rfl
      obtain rfl : (1 : Int) = G := by rw [← HG.out, he]; rfl
      clear hno hv he
      obtain ⟨c0, c1, c2, c3, c4, c5, c6, c7, c8⟩ := HA5.out.nums
      obtain ⟨c9, c10, c11, c12⟩ := HA5.out.signs
      simp [zeroRc] at c0 c1 c2 c3 c4 c5 c6 c7 c8 c9 c10 c11 c12
      have heq := HQ0.out
      go_wp2
      go_ret
      exact ⟨rfl, HB5.out⟩
    | true =>
      have hyes : clOk r l = true := by unfold clOk; rw [hv, he]; rfl
      obtain rfl : (0 : Int) = E := by rw [← HE.out, hyes]; rfl
      obtain rfl : (0 : Int) = G := by rw [← HG.out, he]; rfl
      have hR := HRY.out hyes
      have HCK := Lib.hid (show chkC R k = -1 by rw [hR]; exact chkC_sgd (by rw [← HN.out]; exact closed_valid hv he))
      obtain ⟨G0, G1, G2, G3, hR2⟩ : ∃ G0 G1 G2 G3 : Nat, R = ⟨r.se, r.ch, r.ca, r.ho, r.hs, r.fi, r.la, N, r.am, G0, G1, G2, G3⟩ := ⟨_, _, _, _, hR⟩
      clear hR hyes hv he HRY HRZ HE HG HN
      have HCK2 := Lib.hid (fun w' => rCheck_any R k w')
      rw [HCK.out, hR2] at HCK2
      rw [hR2] at HA5
      clear HCK hR2
      obtain ⟨c0, c1, c2, c3, c4, c5, c6, c7, c8⟩ := HA5.out.nums
      obtain ⟨c9, c10, c11, c12⟩ := HA5.out.signs
      simp only at c0 c1 c2 c3 c4 c5 c6 c7 c8 c9 c10 c11 c12
      obtain ⟨d0, d1, d2, d3, d4, d5, d6, d7, d8⟩ := HX5.out.nums
      obtain ⟨d9, d10, d11, d12⟩ := HX5.out.signs
      simp only [enZero] at d0 d1 d2 d3 d4 d5 d6 d7 d8 d9 d10 d11 d12
      obtain ⟨k0, k1, k2, k3⟩ := HK5.out.keys
      have f7 := HA5.out.frozen 7
      have f9 := HA5.out.frozen 9
      have f10 := HA5.out.frozen 10
      have f11 := HA5.out.frozen 11
      have f12 := HA5.out.frozen 12
      have z1 := HX5.out.lt
      have z2 := HK5.out.lt
      have z3 := HA5.out.lt
      have z4 : w2.heap.size ≠ w.heap.size := Ne.symm hsz
      have z5 : w.heap.size + 1 ≠ w2.heap.size := by omega
      have heq := HQ1.out
      go_upto_region 12 with (fail)
      clear c0 c1 c2 c3 c4 c5 c6 c7 c8 c9 c10 c11 c12 d0 d1 d2 d3 d4 d5 d6 d7 d8 d9 d10 d11 d12 k0 k1 k2 k3 f7 f9 f10 f11 f12 heq
      obtain ⟨Q, hQ⟩ : ∃ Q, ((((w5.setCell ⟨w2.heap.size, 9, none⟩ (.int .u64 (r.g0 : Nat))).setCell ⟨w2.heap.size, 10, none⟩ (.int .u64 (r.g1 : Nat))).setCell ⟨w2.heap.size, 11, none⟩ (.int .u64 (r.g2 : Nat))).setCell ⟨w2.heap.size, 12, none⟩ (.int .u64 (r.g3 : Nat))).setCell ⟨w2.heap.size, 7, none⟩ (.int .i64 0) = Q := ⟨_, rfl⟩
      have hQs : w5.heap.size = Q.heap.size := by rw [← hQ]; simp
      have HQA := Lib.hid (show RcB Q w2.heap.size ⟨r.se, r.ch, r.ca, r.ho, r.hs, r.fi, r.la, 0, r.am, r.g0, r.g1, r.g2, r.g3⟩ by
        rw [← hQ]
        exact RcB.setEn' ((((HA5.out.setG0 r.g0).setG1 r.g1).setG2 r.g2).setG3 r.g3) 0)
      have HQK := Lib.hid (show KyB Q (w.heap.size + 1) k by
        rw [← hQ]
        exact ((((HK5.out.other (p := ⟨w2.heap.size, 9, none⟩) z5 _).other (p := ⟨w2.heap.size, 10, none⟩) z5 _).other (p := ⟨w2.heap.size, 11, none⟩) z5 _).other (p := ⟨w2.heap.size, 12, none⟩) z5 _).other (p := ⟨w2.heap.size, 7, none⟩) z5 _)
      have hle : w.heap.size ≤ w2.heap.size := HB2.out.size
      have HQB := Lib.hid (show Below w.heap.size w Q by
        rw [← hQ]
        exact ((((HB5.out.setCell (p := ⟨w2.heap.size, 9, none⟩) hle _).setCell (p := ⟨w2.heap.size, 10, none⟩) hle _).setCell (p := ⟨w2.heap.size, 11, none⟩) hle _).setCell (p := ⟨w2.heap.size, 12, none⟩) hle _).setCell (p := ⟨w2.heap.size, 7, none⟩) hle _)
      rw [hQ, hQs]
      clear hQ hQs HA5 HX5 HK5 HB5 z1 z2 z3
      have HY1 := Lib.hid (HQA.out.later (below_alloc (Below.refl _ _) (.cells #[.int .u64 (G0 : Nat), .int .u64 (G1 : Nat), .int .u64 (G2 : Nat), .int .u64 (G3 : Nat)] 23)))
      have HY2 := Lib.hid (HQK.out.later (below_alloc (Below.refl _ _) (.cells #[.int .u64 (G0 : Nat), .int .u64 (G1 : Nat), .int .u64 (G2 : Nat), .int .u64 (G3 : Nat)] 23)))
      have HY3 := Lib.hid (Blk.new Q 23 #[.int .u64 (G0 : Nat), .int .u64 (G1 : Nat), .int .u64 (G2 : Nat), .int .u64 (G3 : Nat)])
      have HY4 := Lib.hid (below_alloc HQB.out (.cells #[.int .u64 (G0 : Nat), .int .u64 (G1 : Nat), .int .u64 (G2 : Nat), .int .u64 (G3 : Nat)] 23))
      have z6 := HQA.out.lt
      have z7 := HQK.out.lt
      obtain ⟨Y, hY⟩ : ∃ Y, Q.alloc (.cells #[.int .u64 (G0 : Nat), .int .u64 (G1 : Nat), .int .u64 (G2 : Nat), .int .u64 (G3 : Nat)] 23) = Y := ⟨_, rfl⟩
      rw [hY] at HY1 HY2 HY3 HY4 ⊢
      clear hY HQA HQK HQB
      obtain ⟨c0, c1, c2, c3, c4, c5, c6, c7, c8⟩ := HY1.out.nums
      obtain ⟨c9, c10, c11, c12⟩ := HY1.out.signs
      simp only at c0 c1 c2 c3 c4 c5 c6 c7 c8 c9 c10 c11 c12
      obtain ⟨k0, k1, k2, k3⟩ := HY2.out.keys
      have s0 : Y.cell? ⟨Q.heap.size, 0, none⟩ = some (.int .u64 (G0 : Nat)) := HY3.out.cell 0
      have s1 : Y.cell? ⟨Q.heap.size, 1, none⟩ = some (.int .u64 (G1 : Nat)) := HY3.out.cell 1
      have s2 : Y.cell? ⟨Q.heap.size, 2, none⟩ = some (.int .u64 (G2 : Nat)) := HY3.out.cell 2
      have s3 : Y.cell? ⟨Q.heap.size, 3, none⟩ = some (.int .u64 (G3 : Nat)) := HY3.out.cell 3
      have f7 := HY1.out.frozen 7
      have f9 := HY1.out.frozen 9
      have f10 := HY1.out.frozen 10
      have f11 := HY1.out.frozen 11
      have f12 := HY1.out.frozen 12
      go_wp2_with fail
      clear c0 c1 c2 c3 c4 c5 c6 c7 c8 c9 c10 c11 c12 k0 k1 k2 k3 f7 f9 f10 f11 f12 s0 s1 s2 s3
      have HBL := Lib.hid (((((HY4.out.setCell (p := ⟨w2.heap.size, 9, none⟩) hle (.int .u64 (G0 : Nat))).setCell (p := ⟨w2.heap.size, 10, none⟩) hle (.int .u64 (G1 : Nat))).setCell (p := ⟨w2.heap.size, 11, none⟩) hle (.int .u64 (G2 : Nat))).setCell (p := ⟨w2.heap.size, 12, none⟩) hle (.int .u64 (G3 : Nat))).setCell (p := ⟨w2.heap.size, 7, none⟩) hle (.int .i64 N))
      refine (HCK2.out _).mono ?_
      rintro e w7 ⟨rfl, hb7⟩
      have HB7 := Lib.hid (below_step HBL.out hb7)
      clear hb7
      go_wp2
      go_ret
      exact ⟨rfl, HB7.out⟩
end Go.Proofs.Ytddbobphmakmmaa
