/- Chapter 41: record.Check and the reference's Check. -/
import Derived.Test.YtddbobphmakmmaaWb41
namespace Go.Proofs.Ytddbobphmakmmaa
open Go.RowKit
attribute [local go_sem] Oper.semAt_some

/-- Four keys in a block of their own. -/
def KyB (w : World) (b : Nat) (k : K4) : Prop := Blk w b 23 #[.int .u64 (k.k0 : Nat), .int .u64 (k.k1 : Nat), .int .u64 (k.k2 : Nat), .int .u64 (k.k3 : Nat)]
theorem KyB.later {w w' : World} {b : Nat} {k : K4} (h : KyB w b k) (hb : Below w.heap.size w w') : KyB w' b k := Blk.later h hb
theorem KyB.keys {w : World} {b : Nat} {k : K4} (h : KyB w b k) : w.cell? ⟨b, 0, none⟩ = some (.int .u64 (k.k0 : Nat)) ∧ w.cell? ⟨b, 1, none⟩ = some (.int .u64 (k.k1 : Nat)) ∧ w.cell? ⟨b, 2, none⟩ = some (.int .u64 (k.k2 : Nat)) ∧ w.cell? ⟨b, 3, none⟩ = some (.int .u64 (k.k3 : Nat)) := ⟨h.cell 0, h.cell 1, h.cell 2, h.cell 3⟩

/-- The first n signatures are right. -/
def okUpto (r : Rc) (k : K4) (n : Nat) : Prop := (0 < n → r.g0 = sig r k.k0) ∧ (1 < n → r.g1 = sig r k.k1) ∧ (2 < n → r.g2 = sig r k.k2) ∧ (3 < n → r.g3 = sig r k.k3)
theorem chkC_inv {r : Rc} {k : K4} (h : validC r = false) : chkC r k = 0 := by unfold chkC; rw [if_pos h]
theorem chkC_all {r : Rc} {k : K4} (hv : validC r = true) (h : okUpto r k 4) : chkC r k = -1 := by
  obtain ⟨a, b, c, d⟩ := h
  unfold chkC
  rw [if_neg (by rw [hv]; decide), if_neg (by simpa using a (by decide)), if_neg (by simpa using b (by decide)), if_neg (by simpa using c (by decide)), if_neg (by simpa using d (by decide))]
theorem chkC_at0 {r : Rc} {k : K4} (hv : validC r = true) (_ : okUpto r k 0) (h : ¬ r.g0 = sig r k.k0) : chkC r k = 0 := by
  unfold chkC; rw [if_neg (by rw [hv]; decide), if_pos h]
theorem chkC_at1 {r : Rc} {k : K4} (hv : validC r = true) (o : okUpto r k 1) (h : ¬ r.g1 = sig r k.k1) : chkC r k = 1 := by
  unfold chkC; rw [if_neg (by rw [hv]; decide), if_neg (by simpa using o.1 (by decide)), if_pos h]
theorem chkC_at2 {r : Rc} {k : K4} (hv : validC r = true) (o : okUpto r k 2) (h : ¬ r.g2 = sig r k.k2) : chkC r k = 2 := by
  unfold chkC; rw [if_neg (by rw [hv]; decide), if_neg (by simpa using o.1 (by decide)), if_neg (by simpa using o.2.1 (by decide)), if_pos h]
theorem chkC_at3 {r : Rc} {k : K4} (hv : validC r = true) (o : okUpto r k 3) (h : ¬ r.g3 = sig r k.k3) : chkC r k = 3 := by
  unfold chkC; rw [if_neg (by rw [hv]; decide), if_neg (by simpa using o.1 (by decide)), if_neg (by simpa using o.2.1 (by decide)), if_neg (by simpa using o.2.2.1 (by decide)), if_pos h]

set_option maxRecDepth 100000 in
set_option maxHeartbeats 8000000 in
theorem rCheck_any (r : Rc) (k : K4) (w : World) : Calls Try.prog 14 #[recV r, keyV k] w (Ret (.int .i64 (chkC r k)) w) := by
  obtain ⟨V, hV⟩ : ∃ V, chkC r k = V := ⟨_, rfl⟩
  rw [hV]
  have HV := Lib.hid hV
  clear hV
  go_enter Try.func14, Try.ntmps14
  go_wp2_with fail
  refine (rvalid_any r _).mono ?_
  rintro e w1 ⟨rfl, hb1⟩
  have HX := Lib.hid (((RcB.new w r).later (below_alloc (Below.refl _ _) _)).later hb1)
  have HK := Lib.hid (show KyB w1 (w.heap.size + 1) k from KyB.later (by have h := Blk.new (w.alloc (.cells #[.int .i64 r.se, .int .i64 r.ch, .int .i64 r.ca, .int .i64 r.ho, .int .i64 r.hs, .int .i64 r.fi, .int .i64 r.la, .int .i64 r.en, .int .i64 r.am, .int .u64 (r.g0 : Nat), .int .u64 (r.g1 : Nat), .int .u64 (r.g2 : Nat), .int .u64 (r.g3 : Nat)] 25)) 23 #[.int .u64 (k.k0 : Nat), .int .u64 (k.k1 : Nat), .int .u64 (k.k2 : Nat), .int .u64 (k.k3 : Nat)]; rw [World.size_alloc] at h; exact h) hb1)
  have HB := Lib.hid (below_step (below_alloc (below_alloc (Below.refl _ _) _) _) hb1)
  clear hb1
  cases hv : validC r with
  | false =>
    obtain rfl : 0 = V := by rw [← HV.out]; exact (chkC_inv hv).symm
    go_wp2
    go_ret
    exact ⟨rfl, HB.out⟩
  | true =>
    have HVA := Lib.hid hv
    clear hv
    obtain ⟨k0, k1, k2, k3⟩ := HK.out.keys
    go_wp2
    clear k0 k1 k2 k3
    go_loopw [11] (fun i wr => ∃ n : Nat, n ≤ 4 ∧ i = .int .i64 n ∧ okUpto r k n ∧ Below w1.heap.size w1 wr) (fun i _ => 4 - (intOf i).toNat)
    case atStart => exact ⟨0, by omega, rfl, ⟨fun h => absurd h (by omega), fun h => absurd h (by omega), fun h => absurd h (by omega), fun h => absurd h (by omega)⟩, Below.refl _ _⟩
    case round =>
      obtain ⟨n, hn, rfl, hok, hb⟩ := hrel
      have HOK := Lib.hid hok
      have HB1 := Lib.hid hb
      have HX1 := Lib.hid (HX.out.later hb)
      have HK1 := Lib.hid (HK.out.later hb)
      clear hok hb
      rcases (by omega : n = 0 ∨ n = 1 ∨ n = 2 ∨ n = 3 ∨ n = 4) with rfl | rfl | rfl | rfl | rfl
      · rw [show ((0 : Nat) : Int) = 0 from rfl]
        have HS := Lib.hid (fun w' => rSign_any r k.k0 k.h0 w')
        have HE := Lib.hid (show r.g0 = sig r k.k0 → okUpto r k 1 from fun h => ⟨fun _ => h, fun hh => absurd hh (by decide), fun hh => absurd hh (by decide), fun hh => absurd hh (by decide)⟩)
        have HNE := Lib.hid (fun h => chkC_at0 HVA.out HOK.out h)
        obtain ⟨G, hG⟩ : ∃ G, sig r k.k0 = G := ⟨_, rfl⟩
        rw [hG] at HS HE HNE
        clear hG
        by_cases hg : r.g0 = G
        · have HOK2 := Lib.hid (HE.out hg)
          subst hg
          have hix : ∀ w, (Instr.index 23 (.agg #[.int .u64 (k.k0 : Nat), .int .u64 (k.k1 : Nat), .int .u64 (k.k2 : Nat), .int .u64 (k.k3 : Nat)]) (.int .i64 0)).run Try.prog w = .ok (.int .u64 (k.k0 : Nat)) w := fun _ => by kernel_rfl
          go_wp2_with fail
          clear hix
          refine wp_region_B 8 (fun w'' => Below wr.heap.size wr w'') mixed (by kernel_rfl) (below_closed wr) (Below.refl _ _).drew ?_
          simp only [List.take_succ_cons, List.take_zero, List.drop_succ_cons, List.drop_zero]
          intro KR hR
          have HR := Lib.hid hR
          clear hR
          have HCC := Lib.hid (show ∀ w'', Below wr.heap.size wr w'' → w''.cell? ⟨w.heap.size, 0, none⟩ = some (.int .i64 r.se) ∧ w''.cell? ⟨w.heap.size, 1, none⟩ = some (.int .i64 r.ch) ∧ w''.cell? ⟨w.heap.size, 2, none⟩ = some (.int .i64 r.ca) ∧ w''.cell? ⟨w.heap.size, 3, none⟩ = some (.int .i64 r.ho) ∧ w''.cell? ⟨w.heap.size, 4, none⟩ = some (.int .i64 r.hs) ∧ w''.cell? ⟨w.heap.size, 5, none⟩ = some (.int .i64 r.fi) ∧ w''.cell? ⟨w.heap.size, 6, none⟩ = some (.int .i64 r.la) ∧ w''.cell? ⟨w.heap.size, 7, none⟩ = some (.int .i64 r.en) ∧ w''.cell? ⟨w.heap.size, 8, none⟩ = some (.int .i64 r.am) ∧ w''.cell? ⟨w.heap.size, 9, none⟩ = some (.int .u64 (r.g0 : Nat)) ∧ w''.cell? ⟨w.heap.size, 10, none⟩ = some (.int .u64 (r.g1 : Nat)) ∧ w''.cell? ⟨w.heap.size, 11, none⟩ = some (.int .u64 (r.g2 : Nat)) ∧ w''.cell? ⟨w.heap.size, 12, none⟩ = some (.int .u64 (r.g3 : Nat)) from fun w'' hw => ⟨(HX1.out.later hw).cell 0, (HX1.out.later hw).cell 1, (HX1.out.later hw).cell 2, (HX1.out.later hw).cell 3, (HX1.out.later hw).cell 4, (HX1.out.later hw).cell 5, (HX1.out.later hw).cell 6, (HX1.out.later hw).cell 7, (HX1.out.later hw).cell 8, (HX1.out.later hw).cell 9, (HX1.out.later hw).cell 10, (HX1.out.later hw).cell 11, (HX1.out.later hw).cell 12⟩)
          ((with_reducible refine wpB_move ?_ ?_); exact rfl; simp only [Act.put, List.setIfInBounds_toArray, List.set_cons_zero, List.set_cons_succ])
          apply wpB_val rfl
          · (intro w' hw'; obtain ⟨c0, c1, c2, c3, c4, c5, c6, c7, c8, c9, c10, c11, c12⟩ := HCC.out w' hw'; go_simp; with_reducible rfl)
          simp only [Act.put, List.setIfInBounds_toArray, List.set_cons_zero, List.set_cons_succ]
          apply wpB_val rfl
          · (intro w' hw'; obtain ⟨c0, c1, c2, c3, c4, c5, c6, c7, c8, c9, c10, c11, c12⟩ := HCC.out w' hw'; go_simp; with_reducible rfl)
          simp only [Act.put, List.setIfInBounds_toArray, List.set_cons_zero, List.set_cons_succ]
          apply wpB_val rfl
          · (intro w' hw'; obtain ⟨c0, c1, c2, c3, c4, c5, c6, c7, c8, c9, c10, c11, c12⟩ := HCC.out w' hw'; go_simp; with_reducible rfl)
          simp only [Act.put, List.setIfInBounds_toArray, List.set_cons_zero, List.set_cons_succ]
          apply wpB_val rfl
          · (intro w' hw'; obtain ⟨c0, c1, c2, c3, c4, c5, c6, c7, c8, c9, c10, c11, c12⟩ := HCC.out w' hw'; go_simp; with_reducible rfl)
          simp only [Act.put, List.setIfInBounds_toArray, List.set_cons_zero, List.set_cons_succ]
          ((with_reducible refine wpB_move ?_ ?_); exact rfl; simp only [Act.put, List.setIfInBounds_toArray, List.set_cons_zero, List.set_cons_succ])
          apply wpB_call 12 #[recV r, .int .u64 (k.k0 : Nat)] rfl (v := _)
          · (intro w'; go_simp)
          · exact fun w' hw' => HS.out w'
          simp only [Act.put, List.setIfInBounds_toArray, List.set_cons_zero, List.set_cons_succ]
          apply wpB_val rfl
          · (intro w' hw'; go_simp; with_reducible rfl)
          simp only [Act.put, List.setIfInBounds_toArray, List.set_cons_zero, List.set_cons_succ]
          refine wpB_nil (HR.out _ (fun w2 hw2 => ?_))
          clear HR HCC
          have HB2 := Lib.hid (below_step HB1.out hw2)
          clear hw2
          go_wp2
          go_roundw
          case rel => exact ⟨1, by omega, rfl, HOK2.out, HB2.out⟩
          case measure => simp [intOf]
        · have hgb : ((r.g0 : Int) == (G : Int)) = false := by rw [beq_eq_false_iff_ne]; omega
          obtain rfl : 0 = V := by rw [← HV.out]; exact (HNE.out hg).symm
          have hix : ∀ w, (Instr.index 23 (.agg #[.int .u64 (k.k0 : Nat), .int .u64 (k.k1 : Nat), .int .u64 (k.k2 : Nat), .int .u64 (k.k3 : Nat)]) (.int .i64 0)).run Try.prog w = .ok (.int .u64 (k.k0 : Nat)) w := fun _ => by kernel_rfl
          go_wp2_with fail
          clear hix
          refine wp_region_B 8 (fun w'' => Below wr.heap.size wr w'') mixed (by kernel_rfl) (below_closed wr) (Below.refl _ _).drew ?_
          simp only [List.take_succ_cons, List.take_zero, List.drop_succ_cons, List.drop_zero]
          intro KR hR
          have HR := Lib.hid hR
          clear hR
          have HCC := Lib.hid (show ∀ w'', Below wr.heap.size wr w'' → w''.cell? ⟨w.heap.size, 0, none⟩ = some (.int .i64 r.se) ∧ w''.cell? ⟨w.heap.size, 1, none⟩ = some (.int .i64 r.ch) ∧ w''.cell? ⟨w.heap.size, 2, none⟩ = some (.int .i64 r.ca) ∧ w''.cell? ⟨w.heap.size, 3, none⟩ = some (.int .i64 r.ho) ∧ w''.cell? ⟨w.heap.size, 4, none⟩ = some (.int .i64 r.hs) ∧ w''.cell? ⟨w.heap.size, 5, none⟩ = some (.int .i64 r.fi) ∧ w''.cell? ⟨w.heap.size, 6, none⟩ = some (.int .i64 r.la) ∧ w''.cell? ⟨w.heap.size, 7, none⟩ = some (.int .i64 r.en) ∧ w''.cell? ⟨w.heap.size, 8, none⟩ = some (.int .i64 r.am) ∧ w''.cell? ⟨w.heap.size, 9, none⟩ = some (.int .u64 (r.g0 : Nat)) ∧ w''.cell? ⟨w.heap.size, 10, none⟩ = some (.int .u64 (r.g1 : Nat)) ∧ w''.cell? ⟨w.heap.size, 11, none⟩ = some (.int .u64 (r.g2 : Nat)) ∧ w''.cell? ⟨w.heap.size, 12, none⟩ = some (.int .u64 (r.g3 : Nat)) from fun w'' hw => ⟨(HX1.out.later hw).cell 0, (HX1.out.later hw).cell 1, (HX1.out.later hw).cell 2, (HX1.out.later hw).cell 3, (HX1.out.later hw).cell 4, (HX1.out.later hw).cell 5, (HX1.out.later hw).cell 6, (HX1.out.later hw).cell 7, (HX1.out.later hw).cell 8, (HX1.out.later hw).cell 9, (HX1.out.later hw).cell 10, (HX1.out.later hw).cell 11, (HX1.out.later hw).cell 12⟩)
          ((with_reducible refine wpB_move ?_ ?_); exact rfl; simp only [Act.put, List.setIfInBounds_toArray, List.set_cons_zero, List.set_cons_succ])
          apply wpB_val rfl
          · (intro w' hw'; obtain ⟨c0, c1, c2, c3, c4, c5, c6, c7, c8, c9, c10, c11, c12⟩ := HCC.out w' hw'; go_simp; with_reducible rfl)
          simp only [Act.put, List.setIfInBounds_toArray, List.set_cons_zero, List.set_cons_succ]
          apply wpB_val rfl
          · (intro w' hw'; obtain ⟨c0, c1, c2, c3, c4, c5, c6, c7, c8, c9, c10, c11, c12⟩ := HCC.out w' hw'; go_simp; with_reducible rfl)
          simp only [Act.put, List.setIfInBounds_toArray, List.set_cons_zero, List.set_cons_succ]
          apply wpB_val rfl
          · (intro w' hw'; obtain ⟨c0, c1, c2, c3, c4, c5, c6, c7, c8, c9, c10, c11, c12⟩ := HCC.out w' hw'; go_simp; with_reducible rfl)
          simp only [Act.put, List.setIfInBounds_toArray, List.set_cons_zero, List.set_cons_succ]
          apply wpB_val rfl
          · (intro w' hw'; obtain ⟨c0, c1, c2, c3, c4, c5, c6, c7, c8, c9, c10, c11, c12⟩ := HCC.out w' hw'; go_simp; with_reducible rfl)
          simp only [Act.put, List.setIfInBounds_toArray, List.set_cons_zero, List.set_cons_succ]
          ((with_reducible refine wpB_move ?_ ?_); exact rfl; simp only [Act.put, List.setIfInBounds_toArray, List.set_cons_zero, List.set_cons_succ])
          apply wpB_call 12 #[recV r, .int .u64 (k.k0 : Nat)] rfl (v := _)
          · (intro w'; go_simp)
          · exact fun w' hw' => HS.out w'
          simp only [Act.put, List.setIfInBounds_toArray, List.set_cons_zero, List.set_cons_succ]
          apply wpB_val rfl
          · (intro w' hw'; go_simp; with_reducible rfl)
          simp only [Act.put, List.setIfInBounds_toArray, List.set_cons_zero, List.set_cons_succ]
          refine wpB_nil (HR.out _ (fun w2 hw2 => ?_))
          clear HR HCC
          have HB2 := Lib.hid (below_step HB1.out hw2)
          clear hw2
          go_wp2
          go_ret
          exact ⟨rfl, below_step HB.out HB2.out⟩
      · rw [show ((1 : Nat) : Int) = 1 from rfl]
        have HS := Lib.hid (fun w' => rSign_any r k.k1 k.h1 w')
        have HE := Lib.hid (show r.g1 = sig r k.k1 → okUpto r k 2 from fun h => ⟨fun _ => HOK.out.1 (by decide), fun hh => h, fun hh => absurd hh (by decide), fun hh => absurd hh (by decide)⟩)
        have HNE := Lib.hid (fun h => chkC_at1 HVA.out HOK.out h)
        obtain ⟨G, hG⟩ : ∃ G, sig r k.k1 = G := ⟨_, rfl⟩
        rw [hG] at HS HE HNE
        clear hG
        by_cases hg : r.g1 = G
        · have HOK2 := Lib.hid (HE.out hg)
          subst hg
          have hix : ∀ w, (Instr.index 23 (.agg #[.int .u64 (k.k0 : Nat), .int .u64 (k.k1 : Nat), .int .u64 (k.k2 : Nat), .int .u64 (k.k3 : Nat)]) (.int .i64 1)).run Try.prog w = .ok (.int .u64 (k.k1 : Nat)) w := fun _ => by kernel_rfl
          go_wp2_with fail
          clear hix
          refine wp_region_B 8 (fun w'' => Below wr.heap.size wr w'') mixed (by kernel_rfl) (below_closed wr) (Below.refl _ _).drew ?_
          simp only [List.take_succ_cons, List.take_zero, List.drop_succ_cons, List.drop_zero]
          intro KR hR
          have HR := Lib.hid hR
          clear hR
          have HCC := Lib.hid (show ∀ w'', Below wr.heap.size wr w'' → w''.cell? ⟨w.heap.size, 0, none⟩ = some (.int .i64 r.se) ∧ w''.cell? ⟨w.heap.size, 1, none⟩ = some (.int .i64 r.ch) ∧ w''.cell? ⟨w.heap.size, 2, none⟩ = some (.int .i64 r.ca) ∧ w''.cell? ⟨w.heap.size, 3, none⟩ = some (.int .i64 r.ho) ∧ w''.cell? ⟨w.heap.size, 4, none⟩ = some (.int .i64 r.hs) ∧ w''.cell? ⟨w.heap.size, 5, none⟩ = some (.int .i64 r.fi) ∧ w''.cell? ⟨w.heap.size, 6, none⟩ = some (.int .i64 r.la) ∧ w''.cell? ⟨w.heap.size, 7, none⟩ = some (.int .i64 r.en) ∧ w''.cell? ⟨w.heap.size, 8, none⟩ = some (.int .i64 r.am) ∧ w''.cell? ⟨w.heap.size, 9, none⟩ = some (.int .u64 (r.g0 : Nat)) ∧ w''.cell? ⟨w.heap.size, 10, none⟩ = some (.int .u64 (r.g1 : Nat)) ∧ w''.cell? ⟨w.heap.size, 11, none⟩ = some (.int .u64 (r.g2 : Nat)) ∧ w''.cell? ⟨w.heap.size, 12, none⟩ = some (.int .u64 (r.g3 : Nat)) from fun w'' hw => ⟨(HX1.out.later hw).cell 0, (HX1.out.later hw).cell 1, (HX1.out.later hw).cell 2, (HX1.out.later hw).cell 3, (HX1.out.later hw).cell 4, (HX1.out.later hw).cell 5, (HX1.out.later hw).cell 6, (HX1.out.later hw).cell 7, (HX1.out.later hw).cell 8, (HX1.out.later hw).cell 9, (HX1.out.later hw).cell 10, (HX1.out.later hw).cell 11, (HX1.out.later hw).cell 12⟩)
          ((with_reducible refine wpB_move ?_ ?_); exact rfl; simp only [Act.put, List.setIfInBounds_toArray, List.set_cons_zero, List.set_cons_succ])
          apply wpB_val rfl
          · (intro w' hw'; obtain ⟨c0, c1, c2, c3, c4, c5, c6, c7, c8, c9, c10, c11, c12⟩ := HCC.out w' hw'; go_simp; with_reducible rfl)
          simp only [Act.put, List.setIfInBounds_toArray, List.set_cons_zero, List.set_cons_succ]
          apply wpB_val rfl
          · (intro w' hw'; obtain ⟨c0, c1, c2, c3, c4, c5, c6, c7, c8, c9, c10, c11, c12⟩ := HCC.out w' hw'; go_simp; with_reducible rfl)
          simp only [Act.put, List.setIfInBounds_toArray, List.set_cons_zero, List.set_cons_succ]
          apply wpB_val rfl
          · (intro w' hw'; obtain ⟨c0, c1, c2, c3, c4, c5, c6, c7, c8, c9, c10, c11, c12⟩ := HCC.out w' hw'; go_simp; with_reducible rfl)
          simp only [Act.put, List.setIfInBounds_toArray, List.set_cons_zero, List.set_cons_succ]
          apply wpB_val rfl
          · (intro w' hw'; obtain ⟨c0, c1, c2, c3, c4, c5, c6, c7, c8, c9, c10, c11, c12⟩ := HCC.out w' hw'; go_simp; with_reducible rfl)
          simp only [Act.put, List.setIfInBounds_toArray, List.set_cons_zero, List.set_cons_succ]
          ((with_reducible refine wpB_move ?_ ?_); exact rfl; simp only [Act.put, List.setIfInBounds_toArray, List.set_cons_zero, List.set_cons_succ])
          apply wpB_call 12 #[recV r, .int .u64 (k.k1 : Nat)] rfl (v := _)
          · (intro w'; go_simp)
          · exact fun w' hw' => HS.out w'
          simp only [Act.put, List.setIfInBounds_toArray, List.set_cons_zero, List.set_cons_succ]
          apply wpB_val rfl
          · (intro w' hw'; go_simp; with_reducible rfl)
          simp only [Act.put, List.setIfInBounds_toArray, List.set_cons_zero, List.set_cons_succ]
          refine wpB_nil (HR.out _ (fun w2 hw2 => ?_))
          clear HR HCC
          have HB2 := Lib.hid (below_step HB1.out hw2)
          clear hw2
          go_wp2
          go_roundw
          case rel => exact ⟨2, by omega, rfl, HOK2.out, HB2.out⟩
          case measure => simp [intOf]
        · have hgb : ((r.g1 : Int) == (G : Int)) = false := by rw [beq_eq_false_iff_ne]; omega
          obtain rfl : 1 = V := by rw [← HV.out]; exact (HNE.out hg).symm
          have hix : ∀ w, (Instr.index 23 (.agg #[.int .u64 (k.k0 : Nat), .int .u64 (k.k1 : Nat), .int .u64 (k.k2 : Nat), .int .u64 (k.k3 : Nat)]) (.int .i64 1)).run Try.prog w = .ok (.int .u64 (k.k1 : Nat)) w := fun _ => by kernel_rfl
          go_wp2_with fail
          clear hix
          refine wp_region_B 8 (fun w'' => Below wr.heap.size wr w'') mixed (by kernel_rfl) (below_closed wr) (Below.refl _ _).drew ?_
          simp only [List.take_succ_cons, List.take_zero, List.drop_succ_cons, List.drop_zero]
          intro KR hR
          have HR := Lib.hid hR
          clear hR
          have HCC := Lib.hid (show ∀ w'', Below wr.heap.size wr w'' → w''.cell? ⟨w.heap.size, 0, none⟩ = some (.int .i64 r.se) ∧ w''.cell? ⟨w.heap.size, 1, none⟩ = some (.int .i64 r.ch) ∧ w''.cell? ⟨w.heap.size, 2, none⟩ = some (.int .i64 r.ca) ∧ w''.cell? ⟨w.heap.size, 3, none⟩ = some (.int .i64 r.ho) ∧ w''.cell? ⟨w.heap.size, 4, none⟩ = some (.int .i64 r.hs) ∧ w''.cell? ⟨w.heap.size, 5, none⟩ = some (.int .i64 r.fi) ∧ w''.cell? ⟨w.heap.size, 6, none⟩ = some (.int .i64 r.la) ∧ w''.cell? ⟨w.heap.size, 7, none⟩ = some (.int .i64 r.en) ∧ w''.cell? ⟨w.heap.size, 8, none⟩ = some (.int .i64 r.am) ∧ w''.cell? ⟨w.heap.size, 9, none⟩ = some (.int .u64 (r.g0 : Nat)) ∧ w''.cell? ⟨w.heap.size, 10, none⟩ = some (.int .u64 (r.g1 : Nat)) ∧ w''.cell? ⟨w.heap.size, 11, none⟩ = some (.int .u64 (r.g2 : Nat)) ∧ w''.cell? ⟨w.heap.size, 12, none⟩ = some (.int .u64 (r.g3 : Nat)) from fun w'' hw => ⟨(HX1.out.later hw).cell 0, (HX1.out.later hw).cell 1, (HX1.out.later hw).cell 2, (HX1.out.later hw).cell 3, (HX1.out.later hw).cell 4, (HX1.out.later hw).cell 5, (HX1.out.later hw).cell 6, (HX1.out.later hw).cell 7, (HX1.out.later hw).cell 8, (HX1.out.later hw).cell 9, (HX1.out.later hw).cell 10, (HX1.out.later hw).cell 11, (HX1.out.later hw).cell 12⟩)
          ((with_reducible refine wpB_move ?_ ?_); exact rfl; simp only [Act.put, List.setIfInBounds_toArray, List.set_cons_zero, List.set_cons_succ])
          apply wpB_val rfl
          · (intro w' hw'; obtain ⟨c0, c1, c2, c3, c4, c5, c6, c7, c8, c9, c10, c11, c12⟩ := HCC.out w' hw'; go_simp; with_reducible rfl)
          simp only [Act.put, List.setIfInBounds_toArray, List.set_cons_zero, List.set_cons_succ]
          apply wpB_val rfl
          · (intro w' hw'; obtain ⟨c0, c1, c2, c3, c4, c5, c6, c7, c8, c9, c10, c11, c12⟩ := HCC.out w' hw'; go_simp; with_reducible rfl)
          simp only [Act.put, List.setIfInBounds_toArray, List.set_cons_zero, List.set_cons_succ]
          apply wpB_val rfl
          · (intro w' hw'; obtain ⟨c0, c1, c2, c3, c4, c5, c6, c7, c8, c9, c10, c11, c12⟩ := HCC.out w' hw'; go_simp; with_reducible rfl)
          simp only [Act.put, List.setIfInBounds_toArray, List.set_cons_zero, List.set_cons_succ]
          apply wpB_val rfl
          · (intro w' hw'; obtain ⟨c0, c1, c2, c3, c4, c5, c6, c7, c8, c9, c10, c11, c12⟩ := HCC.out w' hw'; go_simp; with_reducible rfl)
          simp only [Act.put, List.setIfInBounds_toArray, List.set_cons_zero, List.set_cons_succ]
          ((with_reducible refine wpB_move ?_ ?_); exact rfl; simp only [Act.put, List.setIfInBounds_toArray, List.set_cons_zero, List.set_cons_succ])
          apply wpB_call 12 #[recV r, .int .u64 (k.k1 : Nat)] rfl (v := _)
          · (intro w'; go_simp)
          · exact fun w' hw' => HS.out w'
          simp only [Act.put, List.setIfInBounds_toArray, List.set_cons_zero, List.set_cons_succ]
          apply wpB_val rfl
          · (intro w' hw'; go_simp; with_reducible rfl)
          simp only [Act.put, List.setIfInBounds_toArray, List.set_cons_zero, List.set_cons_succ]
          refine wpB_nil (HR.out _ (fun w2 hw2 => ?_))
          clear HR HCC
          have HB2 := Lib.hid (below_step HB1.out hw2)
          clear hw2
          go_wp2
          go_ret
          exact ⟨rfl, below_step HB.out HB2.out⟩
      · rw [show ((2 : Nat) : Int) = 2 from rfl]
        have HS := Lib.hid (fun w' => rSign_any r k.k2 k.h2 w')
        have HE := Lib.hid (show r.g2 = sig r k.k2 → okUpto r k 3 from fun h => ⟨fun _ => HOK.out.1 (by decide), fun hh => HOK.out.2.1 (by decide), fun hh => h, fun hh => absurd hh (by decide)⟩)
        have HNE := Lib.hid (fun h => chkC_at2 HVA.out HOK.out h)
        obtain ⟨G, hG⟩ : ∃ G, sig r k.k2 = G := ⟨_, rfl⟩
        rw [hG] at HS HE HNE
        clear hG
        by_cases hg : r.g2 = G
        · have HOK2 := Lib.hid (HE.out hg)
          subst hg
          have hix : ∀ w, (Instr.index 23 (.agg #[.int .u64 (k.k0 : Nat), .int .u64 (k.k1 : Nat), .int .u64 (k.k2 : Nat), .int .u64 (k.k3 : Nat)]) (.int .i64 2)).run Try.prog w = .ok (.int .u64 (k.k2 : Nat)) w := fun _ => by kernel_rfl
          go_wp2_with fail
          clear hix
          refine wp_region_B 8 (fun w'' => Below wr.heap.size wr w'') mixed (by kernel_rfl) (below_closed wr) (Below.refl _ _).drew ?_
          simp only [List.take_succ_cons, List.take_zero, List.drop_succ_cons, List.drop_zero]
          intro KR hR
          have HR := Lib.hid hR
          clear hR
          have HCC := Lib.hid (show ∀ w'', Below wr.heap.size wr w'' → w''.cell? ⟨w.heap.size, 0, none⟩ = some (.int .i64 r.se) ∧ w''.cell? ⟨w.heap.size, 1, none⟩ = some (.int .i64 r.ch) ∧ w''.cell? ⟨w.heap.size, 2, none⟩ = some (.int .i64 r.ca) ∧ w''.cell? ⟨w.heap.size, 3, none⟩ = some (.int .i64 r.ho) ∧ w''.cell? ⟨w.heap.size, 4, none⟩ = some (.int .i64 r.hs) ∧ w''.cell? ⟨w.heap.size, 5, none⟩ = some (.int .i64 r.fi) ∧ w''.cell? ⟨w.heap.size, 6, none⟩ = some (.int .i64 r.la) ∧ w''.cell? ⟨w.heap.size, 7, none⟩ = some (.int .i64 r.en) ∧ w''.cell? ⟨w.heap.size, 8, none⟩ = some (.int .i64 r.am) ∧ w''.cell? ⟨w.heap.size, 9, none⟩ = some (.int .u64 (r.g0 : Nat)) ∧ w''.cell? ⟨w.heap.size, 10, none⟩ = some (.int .u64 (r.g1 : Nat)) ∧ w''.cell? ⟨w.heap.size, 11, none⟩ = some (.int .u64 (r.g2 : Nat)) ∧ w''.cell? ⟨w.heap.size, 12, none⟩ = some (.int .u64 (r.g3 : Nat)) from fun w'' hw => ⟨(HX1.out.later hw).cell 0, (HX1.out.later hw).cell 1, (HX1.out.later hw).cell 2, (HX1.out.later hw).cell 3, (HX1.out.later hw).cell 4, (HX1.out.later hw).cell 5, (HX1.out.later hw).cell 6, (HX1.out.later hw).cell 7, (HX1.out.later hw).cell 8, (HX1.out.later hw).cell 9, (HX1.out.later hw).cell 10, (HX1.out.later hw).cell 11, (HX1.out.later hw).cell 12⟩)
          ((with_reducible refine wpB_move ?_ ?_); exact rfl; simp only [Act.put, List.setIfInBounds_toArray, List.set_cons_zero, List.set_cons_succ])
          apply wpB_val rfl
          · (intro w' hw'; obtain ⟨c0, c1, c2, c3, c4, c5, c6, c7, c8, c9, c10, c11, c12⟩ := HCC.out w' hw'; go_simp; with_reducible rfl)
          simp only [Act.put, List.setIfInBounds_toArray, List.set_cons_zero, List.set_cons_succ]
          apply wpB_val rfl
          · (intro w' hw'; obtain ⟨c0, c1, c2, c3, c4, c5, c6, c7, c8, c9, c10, c11, c12⟩ := HCC.out w' hw'; go_simp; with_reducible rfl)
          simp only [Act.put, List.setIfInBounds_toArray, List.set_cons_zero, List.set_cons_succ]
          apply wpB_val rfl
          · (intro w' hw'; obtain ⟨c0, c1, c2, c3, c4, c5, c6, c7, c8, c9, c10, c11, c12⟩ := HCC.out w' hw'; go_simp; with_reducible rfl)
          simp only [Act.put, List.setIfInBounds_toArray, List.set_cons_zero, List.set_cons_succ]
          apply wpB_val rfl
          · (intro w' hw'; obtain ⟨c0, c1, c2, c3, c4, c5, c6, c7, c8, c9, c10, c11, c12⟩ := HCC.out w' hw'; go_simp; with_reducible rfl)
          simp only [Act.put, List.setIfInBounds_toArray, List.set_cons_zero, List.set_cons_succ]
          ((with_reducible refine wpB_move ?_ ?_); exact rfl; simp only [Act.put, List.setIfInBounds_toArray, List.set_cons_zero, List.set_cons_succ])
          apply wpB_call 12 #[recV r, .int .u64 (k.k2 : Nat)] rfl (v := _)
          · (intro w'; go_simp)
          · exact fun w' hw' => HS.out w'
          simp only [Act.put, List.setIfInBounds_toArray, List.set_cons_zero, List.set_cons_succ]
          apply wpB_val rfl
          · (intro w' hw'; go_simp; with_reducible rfl)
          simp only [Act.put, List.setIfInBounds_toArray, List.set_cons_zero, List.set_cons_succ]
          refine wpB_nil (HR.out _ (fun w2 hw2 => ?_))
          clear HR HCC
          have HB2 := Lib.hid (below_step HB1.out hw2)
          clear hw2
          go_wp2
          go_roundw
          case rel => exact ⟨3, by omega, rfl, HOK2.out, HB2.out⟩
          case measure => simp [intOf]
        · have hgb : ((r.g2 : Int) == (G : Int)) = false := by rw [beq_eq_false_iff_ne]; omega
          obtain rfl : 2 = V := by rw [← HV.out]; exact (HNE.out hg).symm
          have hix : ∀ w, (Instr.index 23 (.agg #[.int .u64 (k.k0 : Nat), .int .u64 (k.k1 : Nat), .int .u64 (k.k2 : Nat), .int .u64 (k.k3 : Nat)]) (.int .i64 2)).run Try.prog w = .ok (.int .u64 (k.k2 : Nat)) w := fun _ => by kernel_rfl
          go_wp2_with fail
          clear hix
          refine wp_region_B 8 (fun w'' => Below wr.heap.size wr w'') mixed (by kernel_rfl) (below_closed wr) (Below.refl _ _).drew ?_
          simp only [List.take_succ_cons, List.take_zero, List.drop_succ_cons, List.drop_zero]
          intro KR hR
          have HR := Lib.hid hR
          clear hR
          have HCC := Lib.hid (show ∀ w'', Below wr.heap.size wr w'' → w''.cell? ⟨w.heap.size, 0, none⟩ = some (.int .i64 r.se) ∧ w''.cell? ⟨w.heap.size, 1, none⟩ = some (.int .i64 r.ch) ∧ w''.cell? ⟨w.heap.size, 2, none⟩ = some (.int .i64 r.ca) ∧ w''.cell? ⟨w.heap.size, 3, none⟩ = some (.int .i64 r.ho) ∧ w''.cell? ⟨w.heap.size, 4, none⟩ = some (.int .i64 r.hs) ∧ w''.cell? ⟨w.heap.size, 5, none⟩ = some (.int .i64 r.fi) ∧ w''.cell? ⟨w.heap.size, 6, none⟩ = some (.int .i64 r.la) ∧ w''.cell? ⟨w.heap.size, 7, none⟩ = some (.int .i64 r.en) ∧ w''.cell? ⟨w.heap.size, 8, none⟩ = some (.int .i64 r.am) ∧ w''.cell? ⟨w.heap.size, 9, none⟩ = some (.int .u64 (r.g0 : Nat)) ∧ w''.cell? ⟨w.heap.size, 10, none⟩ = some (.int .u64 (r.g1 : Nat)) ∧ w''.cell? ⟨w.heap.size, 11, none⟩ = some (.int .u64 (r.g2 : Nat)) ∧ w''.cell? ⟨w.heap.size, 12, none⟩ = some (.int .u64 (r.g3 : Nat)) from fun w'' hw => ⟨(HX1.out.later hw).cell 0, (HX1.out.later hw).cell 1, (HX1.out.later hw).cell 2, (HX1.out.later hw).cell 3, (HX1.out.later hw).cell 4, (HX1.out.later hw).cell 5, (HX1.out.later hw).cell 6, (HX1.out.later hw).cell 7, (HX1.out.later hw).cell 8, (HX1.out.later hw).cell 9, (HX1.out.later hw).cell 10, (HX1.out.later hw).cell 11, (HX1.out.later hw).cell 12⟩)
          ((with_reducible refine wpB_move ?_ ?_); exact rfl; simp only [Act.put, List.setIfInBounds_toArray, List.set_cons_zero, List.set_cons_succ])
          apply wpB_val rfl
          · (intro w' hw'; obtain ⟨c0, c1, c2, c3, c4, c5, c6, c7, c8, c9, c10, c11, c12⟩ := HCC.out w' hw'; go_simp; with_reducible rfl)
          simp only [Act.put, List.setIfInBounds_toArray, List.set_cons_zero, List.set_cons_succ]
          apply wpB_val rfl
          · (intro w' hw'; obtain ⟨c0, c1, c2, c3, c4, c5, c6, c7, c8, c9, c10, c11, c12⟩ := HCC.out w' hw'; go_simp; with_reducible rfl)
          simp only [Act.put, List.setIfInBounds_toArray, List.set_cons_zero, List.set_cons_succ]
          apply wpB_val rfl
          · (intro w' hw'; obtain ⟨c0, c1, c2, c3, c4, c5, c6, c7, c8, c9, c10, c11, c12⟩ := HCC.out w' hw'; go_simp; with_reducible rfl)
          simp only [Act.put, List.setIfInBounds_toArray, List.set_cons_zero, List.set_cons_succ]
          apply wpB_val rfl
          · (intro w' hw'; obtain ⟨c0, c1, c2, c3, c4, c5, c6, c7, c8, c9, c10, c11, c12⟩ := HCC.out w' hw'; go_simp; with_reducible rfl)
          simp only [Act.put, List.setIfInBounds_toArray, List.set_cons_zero, List.set_cons_succ]
          ((with_reducible refine wpB_move ?_ ?_); exact rfl; simp only [Act.put, List.setIfInBounds_toArray, List.set_cons_zero, List.set_cons_succ])
          apply wpB_call 12 #[recV r, .int .u64 (k.k2 : Nat)] rfl (v := _)
          · (intro w'; go_simp)
          · exact fun w' hw' => HS.out w'
          simp only [Act.put, List.setIfInBounds_toArray, List.set_cons_zero, List.set_cons_succ]
          apply wpB_val rfl
          · (intro w' hw'; go_simp; with_reducible rfl)
          simp only [Act.put, List.setIfInBounds_toArray, List.set_cons_zero, List.set_cons_succ]
          refine wpB_nil (HR.out _ (fun w2 hw2 => ?_))
          clear HR HCC
          have HB2 := Lib.hid (below_step HB1.out hw2)
          clear hw2
          go_wp2
          go_ret
          exact ⟨rfl, below_step HB.out HB2.out⟩
      · rw [show ((3 : Nat) : Int) = 3 from rfl]
        have HS := Lib.hid (fun w' => rSign_any r k.k3 k.h3 w')
        have HE := Lib.hid (show r.g3 = sig r k.k3 → okUpto r k 4 from fun h => ⟨fun _ => HOK.out.1 (by decide), fun hh => HOK.out.2.1 (by decide), fun hh => HOK.out.2.2.1 (by decide), fun hh => h⟩)
        have HNE := Lib.hid (fun h => chkC_at3 HVA.out HOK.out h)
        obtain ⟨G, hG⟩ : ∃ G, sig r k.k3 = G := ⟨_, rfl⟩
        rw [hG] at HS HE HNE
        clear hG
        by_cases hg : r.g3 = G
        · have HOK2 := Lib.hid (HE.out hg)
          subst hg
          have hix : ∀ w, (Instr.index 23 (.agg #[.int .u64 (k.k0 : Nat), .int .u64 (k.k1 : Nat), .int .u64 (k.k2 : Nat), .int .u64 (k.k3 : Nat)]) (.int .i64 3)).run Try.prog w = .ok (.int .u64 (k.k3 : Nat)) w := fun _ => by kernel_rfl
          go_wp2_with fail
          clear hix
          refine wp_region_B 8 (fun w'' => Below wr.heap.size wr w'') mixed (by kernel_rfl) (below_closed wr) (Below.refl _ _).drew ?_
          simp only [List.take_succ_cons, List.take_zero, List.drop_succ_cons, List.drop_zero]
          intro KR hR
          have HR := Lib.hid hR
          clear hR
          have HCC := Lib.hid (show ∀ w'', Below wr.heap.size wr w'' → w''.cell? ⟨w.heap.size, 0, none⟩ = some (.int .i64 r.se) ∧ w''.cell? ⟨w.heap.size, 1, none⟩ = some (.int .i64 r.ch) ∧ w''.cell? ⟨w.heap.size, 2, none⟩ = some (.int .i64 r.ca) ∧ w''.cell? ⟨w.heap.size, 3, none⟩ = some (.int .i64 r.ho) ∧ w''.cell? ⟨w.heap.size, 4, none⟩ = some (.int .i64 r.hs) ∧ w''.cell? ⟨w.heap.size, 5, none⟩ = some (.int .i64 r.fi) ∧ w''.cell? ⟨w.heap.size, 6, none⟩ = some (.int .i64 r.la) ∧ w''.cell? ⟨w.heap.size, 7, none⟩ = some (.int .i64 r.en) ∧ w''.cell? ⟨w.heap.size, 8, none⟩ = some (.int .i64 r.am) ∧ w''.cell? ⟨w.heap.size, 9, none⟩ = some (.int .u64 (r.g0 : Nat)) ∧ w''.cell? ⟨w.heap.size, 10, none⟩ = some (.int .u64 (r.g1 : Nat)) ∧ w''.cell? ⟨w.heap.size, 11, none⟩ = some (.int .u64 (r.g2 : Nat)) ∧ w''.cell? ⟨w.heap.size, 12, none⟩ = some (.int .u64 (r.g3 : Nat)) from fun w'' hw => ⟨(HX1.out.later hw).cell 0, (HX1.out.later hw).cell 1, (HX1.out.later hw).cell 2, (HX1.out.later hw).cell 3, (HX1.out.later hw).cell 4, (HX1.out.later hw).cell 5, (HX1.out.later hw).cell 6, (HX1.out.later hw).cell 7, (HX1.out.later hw).cell 8, (HX1.out.later hw).cell 9, (HX1.out.later hw).cell 10, (HX1.out.later hw).cell 11, (HX1.out.later hw).cell 12⟩)
          ((with_reducible refine wpB_move ?_ ?_); exact rfl; simp only [Act.put, List.setIfInBounds_toArray, List.set_cons_zero, List.set_cons_succ])
          apply wpB_val rfl
          · (intro w' hw'; obtain ⟨c0, c1, c2, c3, c4, c5, c6, c7, c8, c9, c10, c11, c12⟩ := HCC.out w' hw'; go_simp; with_reducible rfl)
          simp only [Act.put, List.setIfInBounds_toArray, List.set_cons_zero, List.set_cons_succ]
          apply wpB_val rfl
          · (intro w' hw'; obtain ⟨c0, c1, c2, c3, c4, c5, c6, c7, c8, c9, c10, c11, c12⟩ := HCC.out w' hw'; go_simp; with_reducible rfl)
          simp only [Act.put, List.setIfInBounds_toArray, List.set_cons_zero, List.set_cons_succ]
          apply wpB_val rfl
          · (intro w' hw'; obtain ⟨c0, c1, c2, c3, c4, c5, c6, c7, c8, c9, c10, c11, c12⟩ := HCC.out w' hw'; go_simp; with_reducible rfl)
          simp only [Act.put, List.setIfInBounds_toArray, List.set_cons_zero, List.set_cons_succ]
          apply wpB_val rfl
          · (intro w' hw'; obtain ⟨c0, c1, c2, c3, c4, c5, c6, c7, c8, c9, c10, c11, c12⟩ := HCC.out w' hw'; go_simp; with_reducible rfl)
          simp only [Act.put, List.setIfInBounds_toArray, List.set_cons_zero, List.set_cons_succ]
          ((with_reducible refine wpB_move ?_ ?_); exact rfl; simp only [Act.put, List.setIfInBounds_toArray, List.set_cons_zero, List.set_cons_succ])
          apply wpB_call 12 #[recV r, .int .u64 (k.k3 : Nat)] rfl (v := _)
          · (intro w'; go_simp)
          · exact fun w' hw' => HS.out w'
          simp only [Act.put, List.setIfInBounds_toArray, List.set_cons_zero, List.set_cons_succ]
          apply wpB_val rfl
          · (intro w' hw'; go_simp; with_reducible rfl)
          simp only [Act.put, List.setIfInBounds_toArray, List.set_cons_zero, List.set_cons_succ]
          refine wpB_nil (HR.out _ (fun w2 hw2 => ?_))
          clear HR HCC
          have HB2 := Lib.hid (below_step HB1.out hw2)
          clear hw2
          go_wp2
          go_roundw
          case rel => exact ⟨4, by omega, rfl, HOK2.out, HB2.out⟩
          case measure => simp [intOf]
        · have hgb : ((r.g3 : Int) == (G : Int)) = false := by rw [beq_eq_false_iff_ne]; omega
          obtain rfl : 3 = V := by rw [← HV.out]; exact (HNE.out hg).symm
          have hix : ∀ w, (Instr.index 23 (.agg #[.int .u64 (k.k0 : Nat), .int .u64 (k.k1 : Nat), .int .u64 (k.k2 : Nat), .int .u64 (k.k3 : Nat)]) (.int .i64 3)).run Try.prog w = .ok (.int .u64 (k.k3 : Nat)) w := fun _ => by kernel_rfl
          go_wp2_with fail
          clear hix
          refine wp_region_B 8 (fun w'' => Below wr.heap.size wr w'') mixed (by kernel_rfl) (below_closed wr) (Below.refl _ _).drew ?_
          simp only [List.take_succ_cons, List.take_zero, List.drop_succ_cons, List.drop_zero]
          intro KR hR
          have HR := Lib.hid hR
          clear hR
          have HCC := Lib.hid (show ∀ w'', Below wr.heap.size wr w'' → w''.cell? ⟨w.heap.size, 0, none⟩ = some (.int .i64 r.se) ∧ w''.cell? ⟨w.heap.size, 1, none⟩ = some (.int .i64 r.ch) ∧ w''.cell? ⟨w.heap.size, 2, none⟩ = some (.int .i64 r.ca) ∧ w''.cell? ⟨w.heap.size, 3, none⟩ = some (.int .i64 r.ho) ∧ w''.cell? ⟨w.heap.size, 4, none⟩ = some (.int .i64 r.hs) ∧ w''.cell? ⟨w.heap.size, 5, none⟩ = some (.int .i64 r.fi) ∧ w''.cell? ⟨w.heap.size, 6, none⟩ = some (.int .i64 r.la) ∧ w''.cell? ⟨w.heap.size, 7, none⟩ = some (.int .i64 r.en) ∧ w''.cell? ⟨w.heap.size, 8, none⟩ = some (.int .i64 r.am) ∧ w''.cell? ⟨w.heap.size, 9, none⟩ = some (.int .u64 (r.g0 : Nat)) ∧ w''.cell? ⟨w.heap.size, 10, none⟩ = some (.int .u64 (r.g1 : Nat)) ∧ w''.cell? ⟨w.heap.size, 11, none⟩ = some (.int .u64 (r.g2 : Nat)) ∧ w''.cell? ⟨w.heap.size, 12, none⟩ = some (.int .u64 (r.g3 : Nat)) from fun w'' hw => ⟨(HX1.out.later hw).cell 0, (HX1.out.later hw).cell 1, (HX1.out.later hw).cell 2, (HX1.out.later hw).cell 3, (HX1.out.later hw).cell 4, (HX1.out.later hw).cell 5, (HX1.out.later hw).cell 6, (HX1.out.later hw).cell 7, (HX1.out.later hw).cell 8, (HX1.out.later hw).cell 9, (HX1.out.later hw).cell 10, (HX1.out.later hw).cell 11, (HX1.out.later hw).cell 12⟩)
          ((with_reducible refine wpB_move ?_ ?_); exact rfl; simp only [Act.put, List.setIfInBounds_toArray, List.set_cons_zero, List.set_cons_succ])
          apply wpB_val rfl
          · (intro w' hw'; obtain ⟨c0, c1, c2, c3, c4, c5, c6, c7, c8, c9, c10, c11, c12⟩ := HCC.out w' hw'; go_simp; with_reducible rfl)
          simp only [Act.put, List.setIfInBounds_toArray, List.set_cons_zero, List.set_cons_succ]
          apply wpB_val rfl
          · (intro w' hw'; obtain ⟨c0, c1, c2, c3, c4, c5, c6, c7, c8, c9, c10, c11, c12⟩ := HCC.out w' hw'; go_simp; with_reducible rfl)
          simp only [Act.put, List.setIfInBounds_toArray, List.set_cons_zero, List.set_cons_succ]
          apply wpB_val rfl
          · (intro w' hw'; obtain ⟨c0, c1, c2, c3, c4, c5, c6, c7, c8, c9, c10, c11, c12⟩ := HCC.out w' hw'; go_simp; with_reducible rfl)
          simp only [Act.put, List.setIfInBounds_toArray, List.set_cons_zero, List.set_cons_succ]
          apply wpB_val rfl
          · (intro w' hw'; obtain ⟨c0, c1, c2, c3, c4, c5, c6, c7, c8, c9, c10, c11, c12⟩ := HCC.out w' hw'; go_simp; with_reducible rfl)
          simp only [Act.put, List.setIfInBounds_toArray, List.set_cons_zero, List.set_cons_succ]
          ((with_reducible refine wpB_move ?_ ?_); exact rfl; simp only [Act.put, List.setIfInBounds_toArray, List.set_cons_zero, List.set_cons_succ])
          apply wpB_call 12 #[recV r, .int .u64 (k.k3 : Nat)] rfl (v := _)
          · (intro w'; go_simp)
          · exact fun w' hw' => HS.out w'
          simp only [Act.put, List.setIfInBounds_toArray, List.set_cons_zero, List.set_cons_succ]
          apply wpB_val rfl
          · (intro w' hw'; go_simp; with_reducible rfl)
          simp only [Act.put, List.setIfInBounds_toArray, List.set_cons_zero, List.set_cons_succ]
          refine wpB_nil (HR.out _ (fun w2 hw2 => ?_))
          clear HR HCC
          have HB2 := Lib.hid (below_step HB1.out hw2)
          clear hw2
          go_wp2
          go_ret
          exact ⟨rfl, below_step HB.out HB2.out⟩
      · rw [show ((4 : Nat) : Int) = 4 from rfl]
        obtain rfl : -1 = V := by rw [← HV.out]; exact (chkC_all HVA.out HOK.out).symm
        go_wp2
        go_ret
        exact ⟨rfl, below_step HB.out HB1.out⟩

set_option maxRecDepth 100000 in
set_option maxHeartbeats 8000000 in
theorem rrefCheck_any (r : Rc) (k : K4) (w : World) : Calls Try.prog 15 #[recV r, keyV k] w (Ret (.int .i64 (chkC r k)) w) := by
  obtain ⟨V, hV⟩ : ∃ V, chkC r k = V := ⟨_, rfl⟩
  rw [hV]
  have HV := Lib.hid hV
  clear hV
  go_enter Try.func15, Try.ntmps15
  go_wp2_with fail
  refine (rrefValid_any r _).mono ?_
  rintro e w1 ⟨rfl, hb1⟩
  have HX := Lib.hid (((RcB.new w r).later (below_alloc (Below.refl _ _) _)).later hb1)
  have HK := Lib.hid (show KyB w1 (w.heap.size + 1) k from KyB.later (by have h := Blk.new (w.alloc (.cells #[.int .i64 r.se, .int .i64 r.ch, .int .i64 r.ca, .int .i64 r.ho, .int .i64 r.hs, .int .i64 r.fi, .int .i64 r.la, .int .i64 r.en, .int .i64 r.am, .int .u64 (r.g0 : Nat), .int .u64 (r.g1 : Nat), .int .u64 (r.g2 : Nat), .int .u64 (r.g3 : Nat)] 25)) 23 #[.int .u64 (k.k0 : Nat), .int .u64 (k.k1 : Nat), .int .u64 (k.k2 : Nat), .int .u64 (k.k3 : Nat)]; rw [World.size_alloc] at h; exact h) hb1)
  have HB := Lib.hid (below_step (below_alloc (below_alloc (Below.refl _ _) _) _) hb1)
  clear hb1
  cases hv : validC r with
  | false =>
    obtain rfl : 0 = V := by rw [← HV.out]; exact (chkC_inv hv).symm
    go_wp2
    go_ret
    exact ⟨rfl, HB.out⟩
  | true =>
    have HVA := Lib.hid hv
    clear hv
    obtain ⟨k0, k1, k2, k3⟩ := HK.out.keys
    go_wp2
    clear k0 k1 k2 k3
    go_loopw [5] (fun i wr => ∃ n : Nat, n ≤ 4 ∧ i = .int .i64 n ∧ okUpto r k n ∧ Below w1.heap.size w1 wr) (fun i _ => 4 - (intOf i).toNat)
    case atStart => exact ⟨0, by omega, rfl, ⟨fun h => absurd h (by omega), fun h => absurd h (by omega), fun h => absurd h (by omega), fun h => absurd h (by omega)⟩, Below.refl _ _⟩
    case round =>
      obtain ⟨n, hn, rfl, hok, hb⟩ := hrel
      have HOK := Lib.hid hok
      have HB1 := Lib.hid hb
      have HX1 := Lib.hid (HX.out.later hb)
      have HK1 := Lib.hid (HK.out.later hb)
      clear hok hb
      rcases (by omega : n = 0 ∨ n = 1 ∨ n = 2 ∨ n = 3 ∨ n = 4) with rfl | rfl | rfl | rfl | rfl
      · rw [show ((0 : Nat) : Int) = 0 from rfl]
        have HS := Lib.hid (fun w' => rrefSign_any r k.k0 k.h0 w')
        have HE := Lib.hid (show r.g0 = sig r k.k0 → okUpto r k 1 from fun h => ⟨fun _ => h, fun hh => absurd hh (by decide), fun hh => absurd hh (by decide), fun hh => absurd hh (by decide)⟩)
        have HNE := Lib.hid (fun h => chkC_at0 HVA.out HOK.out h)
        obtain ⟨G, hG⟩ : ∃ G, sig r k.k0 = G := ⟨_, rfl⟩
        rw [hG] at HS HE HNE
        clear hG
        by_cases hg : r.g0 = G
        · have HOK2 := Lib.hid (HE.out hg)
          subst hg
          go_wp2_with fail
          refine wp_region_B 10 (fun w'' => Below wr.heap.size wr w'') mixed (by kernel_rfl) (below_closed wr) (Below.refl _ _).drew ?_
          simp only [List.take_succ_cons, List.take_zero, List.drop_succ_cons, List.drop_zero]
          intro KR hR
          have HR := Lib.hid hR
          clear hR
          have HCC := Lib.hid (show ∀ w'', Below wr.heap.size wr w'' → w''.cell? ⟨w.heap.size, 0, none⟩ = some (.int .i64 r.se) ∧ w''.cell? ⟨w.heap.size, 1, none⟩ = some (.int .i64 r.ch) ∧ w''.cell? ⟨w.heap.size, 2, none⟩ = some (.int .i64 r.ca) ∧ w''.cell? ⟨w.heap.size, 3, none⟩ = some (.int .i64 r.ho) ∧ w''.cell? ⟨w.heap.size, 4, none⟩ = some (.int .i64 r.hs) ∧ w''.cell? ⟨w.heap.size, 5, none⟩ = some (.int .i64 r.fi) ∧ w''.cell? ⟨w.heap.size, 6, none⟩ = some (.int .i64 r.la) ∧ w''.cell? ⟨w.heap.size, 7, none⟩ = some (.int .i64 r.en) ∧ w''.cell? ⟨w.heap.size, 8, none⟩ = some (.int .i64 r.am) ∧ w''.cell? ⟨w.heap.size, 9, none⟩ = some (.int .u64 (r.g0 : Nat)) ∧ w''.cell? ⟨w.heap.size, 10, none⟩ = some (.int .u64 (r.g1 : Nat)) ∧ w''.cell? ⟨w.heap.size, 11, none⟩ = some (.int .u64 (r.g2 : Nat)) ∧ w''.cell? ⟨w.heap.size, 12, none⟩ = some (.int .u64 (r.g3 : Nat)) ∧ w''.cell? ⟨w.heap.size + 1, 0, none⟩ = some (.int .u64 (k.k0 : Nat)) from fun w'' hw => ⟨(HX1.out.later hw).cell 0, (HX1.out.later hw).cell 1, (HX1.out.later hw).cell 2, (HX1.out.later hw).cell 3, (HX1.out.later hw).cell 4, (HX1.out.later hw).cell 5, (HX1.out.later hw).cell 6, (HX1.out.later hw).cell 7, (HX1.out.later hw).cell 8, (HX1.out.later hw).cell 9, (HX1.out.later hw).cell 10, (HX1.out.later hw).cell 11, (HX1.out.later hw).cell 12, (HK1.out.later hw).cell 0⟩)
          ((with_reducible refine wpB_move ?_ ?_); exact rfl; simp only [Act.put, List.setIfInBounds_toArray, List.set_cons_zero, List.set_cons_succ])
          apply wpB_val rfl
          · (intro w' hw'; obtain ⟨c0, c1, c2, c3, c4, c5, c6, c7, c8, c9, c10, c11, c12, c13⟩ := HCC.out w' hw'; go_simp; with_reducible rfl)
          simp only [Act.put, List.setIfInBounds_toArray, List.set_cons_zero, List.set_cons_succ]
          apply wpB_val rfl
          · (intro w' hw'; obtain ⟨c0, c1, c2, c3, c4, c5, c6, c7, c8, c9, c10, c11, c12, c13⟩ := HCC.out w' hw'; go_simp; with_reducible rfl)
          simp only [Act.put, List.setIfInBounds_toArray, List.set_cons_zero, List.set_cons_succ]
          apply wpB_val rfl
          · (intro w' hw'; obtain ⟨c0, c1, c2, c3, c4, c5, c6, c7, c8, c9, c10, c11, c12, c13⟩ := HCC.out w' hw'; go_simp; with_reducible rfl)
          simp only [Act.put, List.setIfInBounds_toArray, List.set_cons_zero, List.set_cons_succ]
          apply wpB_val rfl
          · (intro w' hw'; obtain ⟨c0, c1, c2, c3, c4, c5, c6, c7, c8, c9, c10, c11, c12, c13⟩ := HCC.out w' hw'; go_simp; with_reducible rfl)
          simp only [Act.put, List.setIfInBounds_toArray, List.set_cons_zero, List.set_cons_succ]
          ((with_reducible refine wpB_move ?_ ?_); exact rfl; simp only [Act.put, List.setIfInBounds_toArray, List.set_cons_zero, List.set_cons_succ])
          apply wpB_val rfl
          · (intro w' hw'; obtain ⟨c0, c1, c2, c3, c4, c5, c6, c7, c8, c9, c10, c11, c12, c13⟩ := HCC.out w' hw'; go_simp; with_reducible rfl)
          simp only [Act.put, List.setIfInBounds_toArray, List.set_cons_zero, List.set_cons_succ]
          apply wpB_val rfl
          · (intro w' hw'; obtain ⟨c0, c1, c2, c3, c4, c5, c6, c7, c8, c9, c10, c11, c12, c13⟩ := HCC.out w' hw'; go_simp; with_reducible rfl)
          simp only [Act.put, List.setIfInBounds_toArray, List.set_cons_zero, List.set_cons_succ]
          apply wpB_call 13 #[recV r, .int .u64 (k.k0 : Nat)] rfl (v := _)
          · (intro w'; go_simp)
          · exact fun w' hw' => HS.out w'
          simp only [Act.put, List.setIfInBounds_toArray, List.set_cons_zero, List.set_cons_succ]
          apply wpB_val rfl
          · (intro w' hw'; go_simp; with_reducible rfl)
          simp only [Act.put, List.setIfInBounds_toArray, List.set_cons_zero, List.set_cons_succ]
          refine wpB_nil (HR.out _ (fun w2 hw2 => ?_))
          clear HR HCC
          have HB2 := Lib.hid (below_step HB1.out hw2)
          clear hw2
          go_wp2
          go_roundw
          case rel => exact ⟨1, by omega, rfl, HOK2.out, HB2.out⟩
          case measure => simp [intOf]
        · have hgb : ((r.g0 : Int) == (G : Int)) = false := by rw [beq_eq_false_iff_ne]; omega
          obtain rfl : 0 = V := by rw [← HV.out]; exact (HNE.out hg).symm
          go_wp2_with fail
          refine wp_region_B 10 (fun w'' => Below wr.heap.size wr w'') mixed (by kernel_rfl) (below_closed wr) (Below.refl _ _).drew ?_
          simp only [List.take_succ_cons, List.take_zero, List.drop_succ_cons, List.drop_zero]
          intro KR hR
          have HR := Lib.hid hR
          clear hR
          have HCC := Lib.hid (show ∀ w'', Below wr.heap.size wr w'' → w''.cell? ⟨w.heap.size, 0, none⟩ = some (.int .i64 r.se) ∧ w''.cell? ⟨w.heap.size, 1, none⟩ = some (.int .i64 r.ch) ∧ w''.cell? ⟨w.heap.size, 2, none⟩ = some (.int .i64 r.ca) ∧ w''.cell? ⟨w.heap.size, 3, none⟩ = some (.int .i64 r.ho) ∧ w''.cell? ⟨w.heap.size, 4, none⟩ = some (.int .i64 r.hs) ∧ w''.cell? ⟨w.heap.size, 5, none⟩ = some (.int .i64 r.fi) ∧ w''.cell? ⟨w.heap.size, 6, none⟩ = some (.int .i64 r.la) ∧ w''.cell? ⟨w.heap.size, 7, none⟩ = some (.int .i64 r.en) ∧ w''.cell? ⟨w.heap.size, 8, none⟩ = some (.int .i64 r.am) ∧ w''.cell? ⟨w.heap.size, 9, none⟩ = some (.int .u64 (r.g0 : Nat)) ∧ w''.cell? ⟨w.heap.size, 10, none⟩ = some (.int .u64 (r.g1 : Nat)) ∧ w''.cell? ⟨w.heap.size, 11, none⟩ = some (.int .u64 (r.g2 : Nat)) ∧ w''.cell? ⟨w.heap.size, 12, none⟩ = some (.int .u64 (r.g3 : Nat)) ∧ w''.cell? ⟨w.heap.size + 1, 0, none⟩ = some (.int .u64 (k.k0 : Nat)) from fun w'' hw => ⟨(HX1.out.later hw).cell 0, (HX1.out.later hw).cell 1, (HX1.out.later hw).cell 2, (HX1.out.later hw).cell 3, (HX1.out.later hw).cell 4, (HX1.out.later hw).cell 5, (HX1.out.later hw).cell 6, (HX1.out.later hw).cell 7, (HX1.out.later hw).cell 8, (HX1.out.later hw).cell 9, (HX1.out.later hw).cell 10, (HX1.out.later hw).cell 11, (HX1.out.later hw).cell 12, (HK1.out.later hw).cell 0⟩)
          ((with_reducible refine wpB_move ?_ ?_); exact rfl; simp only [Act.put, List.setIfInBounds_toArray, List.set_cons_zero, List.set_cons_succ])
          apply wpB_val rfl
          · (intro w' hw'; obtain ⟨c0, c1, c2, c3, c4, c5, c6, c7, c8, c9, c10, c11, c12, c13⟩ := HCC.out w' hw'; go_simp; with_reducible rfl)
          simp only [Act.put, List.setIfInBounds_toArray, List.set_cons_zero, List.set_cons_succ]
          apply wpB_val rfl
          · (intro w' hw'; obtain ⟨c0, c1, c2, c3, c4, c5, c6, c7, c8, c9, c10, c11, c12, c13⟩ := HCC.out w' hw'; go_simp; with_reducible rfl)
          simp only [Act.put, List.setIfInBounds_toArray, List.set_cons_zero, List.set_cons_succ]
          apply wpB_val rfl
          · (intro w' hw'; obtain ⟨c0, c1, c2, c3, c4, c5, c6, c7, c8, c9, c10, c11, c12, c13⟩ := HCC.out w' hw'; go_simp; with_reducible rfl)
          simp only [Act.put, List.setIfInBounds_toArray, List.set_cons_zero, List.set_cons_succ]
          apply wpB_val rfl
          · (intro w' hw'; obtain ⟨c0, c1, c2, c3, c4, c5, c6, c7, c8, c9, c10, c11, c12, c13⟩ := HCC.out w' hw'; go_simp; with_reducible rfl)
          simp only [Act.put, List.setIfInBounds_toArray, List.set_cons_zero, List.set_cons_succ]
          ((with_reducible refine wpB_move ?_ ?_); exact rfl; simp only [Act.put, List.setIfInBounds_toArray, List.set_cons_zero, List.set_cons_succ])
          apply wpB_val rfl
          · (intro w' hw'; obtain ⟨c0, c1, c2, c3, c4, c5, c6, c7, c8, c9, c10, c11, c12, c13⟩ := HCC.out w' hw'; go_simp; with_reducible rfl)
          simp only [Act.put, List.setIfInBounds_toArray, List.set_cons_zero, List.set_cons_succ]
          apply wpB_val rfl
          · (intro w' hw'; obtain ⟨c0, c1, c2, c3, c4, c5, c6, c7, c8, c9, c10, c11, c12, c13⟩ := HCC.out w' hw'; go_simp; with_reducible rfl)
          simp only [Act.put, List.setIfInBounds_toArray, List.set_cons_zero, List.set_cons_succ]
          apply wpB_call 13 #[recV r, .int .u64 (k.k0 : Nat)] rfl (v := _)
          · (intro w'; go_simp)
          · exact fun w' hw' => HS.out w'
          simp only [Act.put, List.setIfInBounds_toArray, List.set_cons_zero, List.set_cons_succ]
          apply wpB_val rfl
          · (intro w' hw'; go_simp; with_reducible rfl)
          simp only [Act.put, List.setIfInBounds_toArray, List.set_cons_zero, List.set_cons_succ]
          refine wpB_nil (HR.out _ (fun w2 hw2 => ?_))
          clear HR HCC
          have HB2 := Lib.hid (below_step HB1.out hw2)
          clear hw2
          go_wp2
          go_ret
          exact ⟨rfl, below_step HB.out HB2.out⟩
      · rw [show ((1 : Nat) : Int) = 1 from rfl]
        have HS := Lib.hid (fun w' => rrefSign_any r k.k1 k.h1 w')
        have HE := Lib.hid (show r.g1 = sig r k.k1 → okUpto r k 2 from fun h => ⟨fun _ => HOK.out.1 (by decide), fun hh => h, fun hh => absurd hh (by decide), fun hh => absurd hh (by decide)⟩)
        have HNE := Lib.hid (fun h => chkC_at1 HVA.out HOK.out h)
        obtain ⟨G, hG⟩ : ∃ G, sig r k.k1 = G := ⟨_, rfl⟩
        rw [hG] at HS HE HNE
        clear hG
        by_cases hg : r.g1 = G
        · have HOK2 := Lib.hid (HE.out hg)
          subst hg
          go_wp2_with fail
          refine wp_region_B 10 (fun w'' => Below wr.heap.size wr w'') mixed (by kernel_rfl) (below_closed wr) (Below.refl _ _).drew ?_
          simp only [List.take_succ_cons, List.take_zero, List.drop_succ_cons, List.drop_zero]
          intro KR hR
          have HR := Lib.hid hR
          clear hR
          have HCC := Lib.hid (show ∀ w'', Below wr.heap.size wr w'' → w''.cell? ⟨w.heap.size, 0, none⟩ = some (.int .i64 r.se) ∧ w''.cell? ⟨w.heap.size, 1, none⟩ = some (.int .i64 r.ch) ∧ w''.cell? ⟨w.heap.size, 2, none⟩ = some (.int .i64 r.ca) ∧ w''.cell? ⟨w.heap.size, 3, none⟩ = some (.int .i64 r.ho) ∧ w''.cell? ⟨w.heap.size, 4, none⟩ = some (.int .i64 r.hs) ∧ w''.cell? ⟨w.heap.size, 5, none⟩ = some (.int .i64 r.fi) ∧ w''.cell? ⟨w.heap.size, 6, none⟩ = some (.int .i64 r.la) ∧ w''.cell? ⟨w.heap.size, 7, none⟩ = some (.int .i64 r.en) ∧ w''.cell? ⟨w.heap.size, 8, none⟩ = some (.int .i64 r.am) ∧ w''.cell? ⟨w.heap.size, 9, none⟩ = some (.int .u64 (r.g0 : Nat)) ∧ w''.cell? ⟨w.heap.size, 10, none⟩ = some (.int .u64 (r.g1 : Nat)) ∧ w''.cell? ⟨w.heap.size, 11, none⟩ = some (.int .u64 (r.g2 : Nat)) ∧ w''.cell? ⟨w.heap.size, 12, none⟩ = some (.int .u64 (r.g3 : Nat)) ∧ w''.cell? ⟨w.heap.size + 1, 1, none⟩ = some (.int .u64 (k.k1 : Nat)) from fun w'' hw => ⟨(HX1.out.later hw).cell 0, (HX1.out.later hw).cell 1, (HX1.out.later hw).cell 2, (HX1.out.later hw).cell 3, (HX1.out.later hw).cell 4, (HX1.out.later hw).cell 5, (HX1.out.later hw).cell 6, (HX1.out.later hw).cell 7, (HX1.out.later hw).cell 8, (HX1.out.later hw).cell 9, (HX1.out.later hw).cell 10, (HX1.out.later hw).cell 11, (HX1.out.later hw).cell 12, (HK1.out.later hw).cell 1⟩)
          ((with_reducible refine wpB_move ?_ ?_); exact rfl; simp only [Act.put, List.setIfInBounds_toArray, List.set_cons_zero, List.set_cons_succ])
          apply wpB_val rfl
          · (intro w' hw'; obtain ⟨c0, c1, c2, c3, c4, c5, c6, c7, c8, c9, c10, c11, c12, c13⟩ := HCC.out w' hw'; go_simp; with_reducible rfl)
          simp only [Act.put, List.setIfInBounds_toArray, List.set_cons_zero, List.set_cons_succ]
          apply wpB_val rfl
          · (intro w' hw'; obtain ⟨c0, c1, c2, c3, c4, c5, c6, c7, c8, c9, c10, c11, c12, c13⟩ := HCC.out w' hw'; go_simp; with_reducible rfl)
          simp only [Act.put, List.setIfInBounds_toArray, List.set_cons_zero, List.set_cons_succ]
          apply wpB_val rfl
          · (intro w' hw'; obtain ⟨c0, c1, c2, c3, c4, c5, c6, c7, c8, c9, c10, c11, c12, c13⟩ := HCC.out w' hw'; go_simp; with_reducible rfl)
          simp only [Act.put, List.setIfInBounds_toArray, List.set_cons_zero, List.set_cons_succ]
          apply wpB_val rfl
          · (intro w' hw'; obtain ⟨c0, c1, c2, c3, c4, c5, c6, c7, c8, c9, c10, c11, c12, c13⟩ := HCC.out w' hw'; go_simp; with_reducible rfl)
          simp only [Act.put, List.setIfInBounds_toArray, List.set_cons_zero, List.set_cons_succ]
          ((with_reducible refine wpB_move ?_ ?_); exact rfl; simp only [Act.put, List.setIfInBounds_toArray, List.set_cons_zero, List.set_cons_succ])
          apply wpB_val rfl
          · (intro w' hw'; obtain ⟨c0, c1, c2, c3, c4, c5, c6, c7, c8, c9, c10, c11, c12, c13⟩ := HCC.out w' hw'; go_simp; with_reducible rfl)
          simp only [Act.put, List.setIfInBounds_toArray, List.set_cons_zero, List.set_cons_succ]
          apply wpB_val rfl
          · (intro w' hw'; obtain ⟨c0, c1, c2, c3, c4, c5, c6, c7, c8, c9, c10, c11, c12, c13⟩ := HCC.out w' hw'; go_simp; with_reducible rfl)
          simp only [Act.put, List.setIfInBounds_toArray, List.set_cons_zero, List.set_cons_succ]
          apply wpB_call 13 #[recV r, .int .u64 (k.k1 : Nat)] rfl (v := _)
          · (intro w'; go_simp)
          · exact fun w' hw' => HS.out w'
          simp only [Act.put, List.setIfInBounds_toArray, List.set_cons_zero, List.set_cons_succ]
          apply wpB_val rfl
          · (intro w' hw'; go_simp; with_reducible rfl)
          simp only [Act.put, List.setIfInBounds_toArray, List.set_cons_zero, List.set_cons_succ]
          refine wpB_nil (HR.out _ (fun w2 hw2 => ?_))
          clear HR HCC
          have HB2 := Lib.hid (below_step HB1.out hw2)
          clear hw2
          go_wp2
          go_roundw
          case rel => exact ⟨2, by omega, rfl, HOK2.out, HB2.out⟩
          case measure => simp [intOf]
        · have hgb : ((r.g1 : Int) == (G : Int)) = false := by rw [beq_eq_false_iff_ne]; omega
          obtain rfl : 1 = V := by rw [← HV.out]; exact (HNE.out hg).symm
          go_wp2_with fail
          refine wp_region_B 10 (fun w'' => Below wr.heap.size wr w'') mixed (by kernel_rfl) (below_closed wr) (Below.refl _ _).drew ?_
          simp only [List.take_succ_cons, List.take_zero, List.drop_succ_cons, List.drop_zero]
          intro KR hR
          have HR := Lib.hid hR
          clear hR
          have HCC := Lib.hid (show ∀ w'', Below wr.heap.size wr w'' → w''.cell? ⟨w.heap.size, 0, none⟩ = some (.int .i64 r.se) ∧ w''.cell? ⟨w.heap.size, 1, none⟩ = some (.int .i64 r.ch) ∧ w''.cell? ⟨w.heap.size, 2, none⟩ = some (.int .i64 r.ca) ∧ w''.cell? ⟨w.heap.size, 3, none⟩ = some (.int .i64 r.ho) ∧ w''.cell? ⟨w.heap.size, 4, none⟩ = some (.int .i64 r.hs) ∧ w''.cell? ⟨w.heap.size, 5, none⟩ = some (.int .i64 r.fi) ∧ w''.cell? ⟨w.heap.size, 6, none⟩ = some (.int .i64 r.la) ∧ w''.cell? ⟨w.heap.size, 7, none⟩ = some (.int .i64 r.en) ∧ w''.cell? ⟨w.heap.size, 8, none⟩ = some (.int .i64 r.am) ∧ w''.cell? ⟨w.heap.size, 9, none⟩ = some (.int .u64 (r.g0 : Nat)) ∧ w''.cell? ⟨w.heap.size, 10, none⟩ = some (.int .u64 (r.g1 : Nat)) ∧ w''.cell? ⟨w.heap.size, 11, none⟩ = some (.int .u64 (r.g2 : Nat)) ∧ w''.cell? ⟨w.heap.size, 12, none⟩ = some (.int .u64 (r.g3 : Nat)) ∧ w''.cell? ⟨w.heap.size + 1, 1, none⟩ = some (.int .u64 (k.k1 : Nat)) from fun w'' hw => ⟨(HX1.out.later hw).cell 0, (HX1.out.later hw).cell 1, (HX1.out.later hw).cell 2, (HX1.out.later hw).cell 3, (HX1.out.later hw).cell 4, (HX1.out.later hw).cell 5, (HX1.out.later hw).cell 6, (HX1.out.later hw).cell 7, (HX1.out.later hw).cell 8, (HX1.out.later hw).cell 9, (HX1.out.later hw).cell 10, (HX1.out.later hw).cell 11, (HX1.out.later hw).cell 12, (HK1.out.later hw).cell 1⟩)
          ((with_reducible refine wpB_move ?_ ?_); exact rfl; simp only [Act.put, List.setIfInBounds_toArray, List.set_cons_zero, List.set_cons_succ])
          apply wpB_val rfl
          · (intro w' hw'; obtain ⟨c0, c1, c2, c3, c4, c5, c6, c7, c8, c9, c10, c11, c12, c13⟩ := HCC.out w' hw'; go_simp; with_reducible rfl)
          simp only [Act.put, List.setIfInBounds_toArray, List.set_cons_zero, List.set_cons_succ]
          apply wpB_val rfl
          · (intro w' hw'; obtain ⟨c0, c1, c2, c3, c4, c5, c6, c7, c8, c9, c10, c11, c12, c13⟩ := HCC.out w' hw'; go_simp; with_reducible rfl)
          simp only [Act.put, List.setIfInBounds_toArray, List.set_cons_zero, List.set_cons_succ]
          apply wpB_val rfl
          · (intro w' hw'; obtain ⟨c0, c1, c2, c3, c4, c5, c6, c7, c8, c9, c10, c11, c12, c13⟩ := HCC.out w' hw'; go_simp; with_reducible rfl)
          simp only [Act.put, List.setIfInBounds_toArray, List.set_cons_zero, List.set_cons_succ]
          apply wpB_val rfl
          · (intro w' hw'; obtain ⟨c0, c1, c2, c3, c4, c5, c6, c7, c8, c9, c10, c11, c12, c13⟩ := HCC.out w' hw'; go_simp; with_reducible rfl)
          simp only [Act.put, List.setIfInBounds_toArray, List.set_cons_zero, List.set_cons_succ]
          ((with_reducible refine wpB_move ?_ ?_); exact rfl; simp only [Act.put, List.setIfInBounds_toArray, List.set_cons_zero, List.set_cons_succ])
          apply wpB_val rfl
          · (intro w' hw'; obtain ⟨c0, c1, c2, c3, c4, c5, c6, c7, c8, c9, c10, c11, c12, c13⟩ := HCC.out w' hw'; go_simp; with_reducible rfl)
          simp only [Act.put, List.setIfInBounds_toArray, List.set_cons_zero, List.set_cons_succ]
          apply wpB_val rfl
          · (intro w' hw'; obtain ⟨c0, c1, c2, c3, c4, c5, c6, c7, c8, c9, c10, c11, c12, c13⟩ := HCC.out w' hw'; go_simp; with_reducible rfl)
          simp only [Act.put, List.setIfInBounds_toArray, List.set_cons_zero, List.set_cons_succ]
          apply wpB_call 13 #[recV r, .int .u64 (k.k1 : Nat)] rfl (v := _)
          · (intro w'; go_simp)
          · exact fun w' hw' => HS.out w'
          simp only [Act.put, List.setIfInBounds_toArray, List.set_cons_zero, List.set_cons_succ]
          apply wpB_val rfl
          · (intro w' hw'; go_simp; with_reducible rfl)
          simp only [Act.put, List.setIfInBounds_toArray, List.set_cons_zero, List.set_cons_succ]
          refine wpB_nil (HR.out _ (fun w2 hw2 => ?_))
          clear HR HCC
          have HB2 := Lib.hid (below_step HB1.out hw2)
          clear hw2
          go_wp2
          go_ret
          exact ⟨rfl, below_step HB.out HB2.out⟩
      · rw [show ((2 : Nat) : Int) = 2 from rfl]
        have HS := Lib.hid (fun w' => rrefSign_any r k.k2 k.h2 w')
        have HE := Lib.hid (show r.g2 = sig r k.k2 → okUpto r k 3 from fun h => ⟨fun _ => HOK.out.1 (by decide), fun hh => HOK.out.2.1 (by decide), fun hh => h, fun hh => absurd hh (by decide)⟩)
        have HNE := Lib.hid (fun h => chkC_at2 HVA.out HOK.out h)
        obtain ⟨G, hG⟩ : ∃ G, sig r k.k2 = G := ⟨_, rfl⟩
        rw [hG] at HS HE HNE
        clear hG
        by_cases hg : r.g2 = G
        · have HOK2 := Lib.hid (HE.out hg)
          subst hg
          go_wp2_with fail
          refine wp_region_B 10 (fun w'' => Below wr.heap.size wr w'') mixed (by kernel_rfl) (below_closed wr) (Below.refl _ _).drew ?_
          simp only [List.take_succ_cons, List.take_zero, List.drop_succ_cons, List.drop_zero]
          intro KR hR
          have HR := Lib.hid hR
          clear hR
          have HCC := Lib.hid (show ∀ w'', Below wr.heap.size wr w'' → w''.cell? ⟨w.heap.size, 0, none⟩ = some (.int .i64 r.se) ∧ w''.cell? ⟨w.heap.size, 1, none⟩ = some (.int .i64 r.ch) ∧ w''.cell? ⟨w.heap.size, 2, none⟩ = some (.int .i64 r.ca) ∧ w''.cell? ⟨w.heap.size, 3, none⟩ = some (.int .i64 r.ho) ∧ w''.cell? ⟨w.heap.size, 4, none⟩ = some (.int .i64 r.hs) ∧ w''.cell? ⟨w.heap.size, 5, none⟩ = some (.int .i64 r.fi) ∧ w''.cell? ⟨w.heap.size, 6, none⟩ = some (.int .i64 r.la) ∧ w''.cell? ⟨w.heap.size, 7, none⟩ = some (.int .i64 r.en) ∧ w''.cell? ⟨w.heap.size, 8, none⟩ = some (.int .i64 r.am) ∧ w''.cell? ⟨w.heap.size, 9, none⟩ = some (.int .u64 (r.g0 : Nat)) ∧ w''.cell? ⟨w.heap.size, 10, none⟩ = some (.int .u64 (r.g1 : Nat)) ∧ w''.cell? ⟨w.heap.size, 11, none⟩ = some (.int .u64 (r.g2 : Nat)) ∧ w''.cell? ⟨w.heap.size, 12, none⟩ = some (.int .u64 (r.g3 : Nat)) ∧ w''.cell? ⟨w.heap.size + 1, 2, none⟩ = some (.int .u64 (k.k2 : Nat)) from fun w'' hw => ⟨(HX1.out.later hw).cell 0, (HX1.out.later hw).cell 1, (HX1.out.later hw).cell 2, (HX1.out.later hw).cell 3, (HX1.out.later hw).cell 4, (HX1.out.later hw).cell 5, (HX1.out.later hw).cell 6, (HX1.out.later hw).cell 7, (HX1.out.later hw).cell 8, (HX1.out.later hw).cell 9, (HX1.out.later hw).cell 10, (HX1.out.later hw).cell 11, (HX1.out.later hw).cell 12, (HK1.out.later hw).cell 2⟩)
          ((with_reducible refine wpB_move ?_ ?_); exact rfl; simp only [Act.put, List.setIfInBounds_toArray, List.set_cons_zero, List.set_cons_succ])
          apply wpB_val rfl
          · (intro w' hw'; obtain ⟨c0, c1, c2, c3, c4, c5, c6, c7, c8, c9, c10, c11, c12, c13⟩ := HCC.out w' hw'; go_simp; with_reducible rfl)
          simp only [Act.put, List.setIfInBounds_toArray, List.set_cons_zero, List.set_cons_succ]
          apply wpB_val rfl
          · (intro w' hw'; obtain ⟨c0, c1, c2, c3, c4, c5, c6, c7, c8, c9, c10, c11, c12, c13⟩ := HCC.out w' hw'; go_simp; with_reducible rfl)
          simp only [Act.put, List.setIfInBounds_toArray, List.set_cons_zero, List.set_cons_succ]
          apply wpB_val rfl
          · (intro w' hw'; obtain ⟨c0, c1, c2, c3, c4, c5, c6, c7, c8, c9, c10, c11, c12, c13⟩ := HCC.out w' hw'; go_simp; with_reducible rfl)
          simp only [Act.put, List.setIfInBounds_toArray, List.set_cons_zero, List.set_cons_succ]
          apply wpB_val rfl
          · (intro w' hw'; obtain ⟨c0, c1, c2, c3, c4, c5, c6, c7, c8, c9, c10, c11, c12, c13⟩ := HCC.out w' hw'; go_simp; with_reducible rfl)
          simp only [Act.put, List.setIfInBounds_toArray, List.set_cons_zero, List.set_cons_succ]
          ((with_reducible refine wpB_move ?_ ?_); exact rfl; simp only [Act.put, List.setIfInBounds_toArray, List.set_cons_zero, List.set_cons_succ])
          apply wpB_val rfl
          · (intro w' hw'; obtain ⟨c0, c1, c2, c3, c4, c5, c6, c7, c8, c9, c10, c11, c12, c13⟩ := HCC.out w' hw'; go_simp; with_reducible rfl)
          simp only [Act.put, List.setIfInBounds_toArray, List.set_cons_zero, List.set_cons_succ]
          apply wpB_val rfl
          · (intro w' hw'; obtain ⟨c0, c1, c2, c3, c4, c5, c6, c7, c8, c9, c10, c11, c12, c13⟩ := HCC.out w' hw'; go_simp; with_reducible rfl)
          simp only [Act.put, List.setIfInBounds_toArray, List.set_cons_zero, List.set_cons_succ]
          apply wpB_call 13 #[recV r, .int .u64 (k.k2 : Nat)] rfl (v := _)
          · (intro w'; go_simp)
          · exact fun w' hw' => HS.out w'
          simp only [Act.put, List.setIfInBounds_toArray, List.set_cons_zero, List.set_cons_succ]
          apply wpB_val rfl
          · (intro w' hw'; go_simp; with_reducible rfl)
          simp only [Act.put, List.setIfInBounds_toArray, List.set_cons_zero, List.set_cons_succ]
          refine wpB_nil (HR.out _ (fun w2 hw2 => ?_))
          clear HR HCC
          have HB2 := Lib.hid (below_step HB1.out hw2)
          clear hw2
          go_wp2
          go_roundw
          case rel => exact ⟨3, by omega, rfl, HOK2.out, HB2.out⟩
          case measure => simp [intOf]
        · have hgb : ((r.g2 : Int) == (G : Int)) = false := by rw [beq_eq_false_iff_ne]; omega
          obtain rfl : 2 = V := by rw [← HV.out]; exact (HNE.out hg).symm
          go_wp2_with fail
          refine wp_region_B 10 (fun w'' => Below wr.heap.size wr w'') mixed (by kernel_rfl) (below_closed wr) (Below.refl _ _).drew ?_
          simp only [List.take_succ_cons, List.take_zero, List.drop_succ_cons, List.drop_zero]
          intro KR hR
          have HR := Lib.hid hR
          clear hR
          have HCC := Lib.hid (show ∀ w'', Below wr.heap.size wr w'' → w''.cell? ⟨w.heap.size, 0, none⟩ = some (.int .i64 r.se) ∧ w''.cell? ⟨w.heap.size, 1, none⟩ = some (.int .i64 r.ch) ∧ w''.cell? ⟨w.heap.size, 2, none⟩ = some (.int .i64 r.ca) ∧ w''.cell? ⟨w.heap.size, 3, none⟩ = some (.int .i64 r.ho) ∧ w''.cell? ⟨w.heap.size, 4, none⟩ = some (.int .i64 r.hs) ∧ w''.cell? ⟨w.heap.size, 5, none⟩ = some (.int .i64 r.fi) ∧ w''.cell? ⟨w.heap.size, 6, none⟩ = some (.int .i64 r.la) ∧ w''.cell? ⟨w.heap.size, 7, none⟩ = some (.int .i64 r.en) ∧ w''.cell? ⟨w.heap.size, 8, none⟩ = some (.int .i64 r.am) ∧ w''.cell? ⟨w.heap.size, 9, none⟩ = some (.int .u64 (r.g0 : Nat)) ∧ w''.cell? ⟨w.heap.size, 10, none⟩ = some (.int .u64 (r.g1 : Nat)) ∧ w''.cell? ⟨w.heap.size, 11, none⟩ = some (.int .u64 (r.g2 : Nat)) ∧ w''.cell? ⟨w.heap.size, 12, none⟩ = some (.int .u64 (r.g3 : Nat)) ∧ w''.cell? ⟨w.heap.size + 1, 2, none⟩ = some (.int .u64 (k.k2 : Nat)) from fun w'' hw => ⟨(HX1.out.later hw).cell 0, (HX1.out.later hw).cell 1, (HX1.out.later hw).cell 2, (HX1.out.later hw).cell 3, (HX1.out.later hw).cell 4, (HX1.out.later hw).cell 5, (HX1.out.later hw).cell 6, (HX1.out.later hw).cell 7, (HX1.out.later hw).cell 8, (HX1.out.later hw).cell 9, (HX1.out.later hw).cell 10, (HX1.out.later hw).cell 11, (HX1.out.later hw).cell 12, (HK1.out.later hw).cell 2⟩)
          ((with_reducible refine wpB_move ?_ ?_); exact rfl; simp only [Act.put, List.setIfInBounds_toArray, List.set_cons_zero, List.set_cons_succ])
          apply wpB_val rfl
          · (intro w' hw'; obtain ⟨c0, c1, c2, c3, c4, c5, c6, c7, c8, c9, c10, c11, c12, c13⟩ := HCC.out w' hw'; go_simp; with_reducible rfl)
          simp only [Act.put, List.setIfInBounds_toArray, List.set_cons_zero, List.set_cons_succ]
          apply wpB_val rfl
          · (intro w' hw'; obtain ⟨c0, c1, c2, c3, c4, c5, c6, c7, c8, c9, c10, c11, c12, c13⟩ := HCC.out w' hw'; go_simp; with_reducible rfl)
          simp only [Act.put, List.setIfInBounds_toArray, List.set_cons_zero, List.set_cons_succ]
          apply wpB_val rfl
          · (intro w' hw'; obtain ⟨c0, c1, c2, c3, c4, c5, c6, c7, c8, c9, c10, c11, c12, c13⟩ := HCC.out w' hw'; go_simp; with_reducible rfl)
          simp only [Act.put, List.setIfInBounds_toArray, List.set_cons_zero, List.set_cons_succ]
          apply wpB_val rfl
          · (intro w' hw'; obtain ⟨c0, c1, c2, c3, c4, c5, c6, c7, c8, c9, c10, c11, c12, c13⟩ := HCC.out w' hw'; go_simp; with_reducible rfl)
          simp only [Act.put, List.setIfInBounds_toArray, List.set_cons_zero, List.set_cons_succ]
          ((with_reducible refine wpB_move ?_ ?_); exact rfl; simp only [Act.put, List.setIfInBounds_toArray, List.set_cons_zero, List.set_cons_succ])
          apply wpB_val rfl
          · (intro w' hw'; obtain ⟨c0, c1, c2, c3, c4, c5, c6, c7, c8, c9, c10, c11, c12, c13⟩ := HCC.out w' hw'; go_simp; with_reducible rfl)
          simp only [Act.put, List.setIfInBounds_toArray, List.set_cons_zero, List.set_cons_succ]
          apply wpB_val rfl
          · (intro w' hw'; obtain ⟨c0, c1, c2, c3, c4, c5, c6, c7, c8, c9, c10, c11, c12, c13⟩ := HCC.out w' hw'; go_simp; with_reducible rfl)
          simp only [Act.put, List.setIfInBounds_toArray, List.set_cons_zero, List.set_cons_succ]
          apply wpB_call 13 #[recV r, .int .u64 (k.k2 : Nat)] rfl (v := _)
          · (intro w'; go_simp)
          · exact fun w' hw' => HS.out w'
          simp only [Act.put, List.setIfInBounds_toArray, List.set_cons_zero, List.set_cons_succ]
          apply wpB_val rfl
          · (intro w' hw'; go_simp; with_reducible rfl)
          simp only [Act.put, List.setIfInBounds_toArray, List.set_cons_zero, List.set_cons_succ]
          refine wpB_nil (HR.out _ (fun w2 hw2 => ?_))
          clear HR HCC
          have HB2 := Lib.hid (below_step HB1.out hw2)
          clear hw2
          go_wp2
          go_ret
          exact ⟨rfl, below_step HB.out HB2.out⟩
      · rw [show ((3 : Nat) : Int) = 3 from rfl]
        have HS := Lib.hid (fun w' => rrefSign_any r k.k3 k.h3 w')
        have HE := Lib.hid (show r.g3 = sig r k.k3 → okUpto r k 4 from fun h => ⟨fun _ => HOK.out.1 (by decide), fun hh => HOK.out.2.1 (by decide), fun hh => HOK.out.2.2.1 (by decide), fun hh => h⟩)
        have HNE := Lib.hid (fun h => chkC_at3 HVA.out HOK.out h)
        obtain ⟨G, hG⟩ : ∃ G, sig r k.k3 = G := ⟨_, rfl⟩
        rw [hG] at HS HE HNE
        clear hG
        by_cases hg : r.g3 = G
        · have HOK2 := Lib.hid (HE.out hg)
          subst hg
          go_wp2_with fail
          refine wp_region_B 10 (fun w'' => Below wr.heap.size wr w'') mixed (by kernel_rfl) (below_closed wr) (Below.refl _ _).drew ?_
          simp only [List.take_succ_cons, List.take_zero, List.drop_succ_cons, List.drop_zero]
          intro KR hR
          have HR := Lib.hid hR
          clear hR
          have HCC := Lib.hid (show ∀ w'', Below wr.heap.size wr w'' → w''.cell? ⟨w.heap.size, 0, none⟩ = some (.int .i64 r.se) ∧ w''.cell? ⟨w.heap.size, 1, none⟩ = some (.int .i64 r.ch) ∧ w''.cell? ⟨w.heap.size, 2, none⟩ = some (.int .i64 r.ca) ∧ w''.cell? ⟨w.heap.size, 3, none⟩ = some (.int .i64 r.ho) ∧ w''.cell? ⟨w.heap.size, 4, none⟩ = some (.int .i64 r.hs) ∧ w''.cell? ⟨w.heap.size, 5, none⟩ = some (.int .i64 r.fi) ∧ w''.cell? ⟨w.heap.size, 6, none⟩ = some (.int .i64 r.la) ∧ w''.cell? ⟨w.heap.size, 7, none⟩ = some (.int .i64 r.en) ∧ w''.cell? ⟨w.heap.size, 8, none⟩ = some (.int .i64 r.am) ∧ w''.cell? ⟨w.heap.size, 9, none⟩ = some (.int .u64 (r.g0 : Nat)) ∧ w''.cell? ⟨w.heap.size, 10, none⟩ = some (.int .u64 (r.g1 : Nat)) ∧ w''.cell? ⟨w.heap.size, 11, none⟩ = some (.int .u64 (r.g2 : Nat)) ∧ w''.cell? ⟨w.heap.size, 12, none⟩ = some (.int .u64 (r.g3 : Nat)) ∧ w''.cell? ⟨w.heap.size + 1, 3, none⟩ = some (.int .u64 (k.k3 : Nat)) from fun w'' hw => ⟨(HX1.out.later hw).cell 0, (HX1.out.later hw).cell 1, (HX1.out.later hw).cell 2, (HX1.out.later hw).cell 3, (HX1.out.later hw).cell 4, (HX1.out.later hw).cell 5, (HX1.out.later hw).cell 6, (HX1.out.later hw).cell 7, (HX1.out.later hw).cell 8, (HX1.out.later hw).cell 9, (HX1.out.later hw).cell 10, (HX1.out.later hw).cell 11, (HX1.out.later hw).cell 12, (HK1.out.later hw).cell 3⟩)
          ((with_reducible refine wpB_move ?_ ?_); exact rfl; simp only [Act.put, List.setIfInBounds_toArray, List.set_cons_zero, List.set_cons_succ])
          apply wpB_val rfl
          · (intro w' hw'; obtain ⟨c0, c1, c2, c3, c4, c5, c6, c7, c8, c9, c10, c11, c12, c13⟩ := HCC.out w' hw'; go_simp; with_reducible rfl)
          simp only [Act.put, List.setIfInBounds_toArray, List.set_cons_zero, List.set_cons_succ]
          apply wpB_val rfl
          · (intro w' hw'; obtain ⟨c0, c1, c2, c3, c4, c5, c6, c7, c8, c9, c10, c11, c12, c13⟩ := HCC.out w' hw'; go_simp; with_reducible rfl)
          simp only [Act.put, List.setIfInBounds_toArray, List.set_cons_zero, List.set_cons_succ]
          apply wpB_val rfl
          · (intro w' hw'; obtain ⟨c0, c1, c2, c3, c4, c5, c6, c7, c8, c9, c10, c11, c12, c13⟩ := HCC.out w' hw'; go_simp; with_reducible rfl)
          simp only [Act.put, List.setIfInBounds_toArray, List.set_cons_zero, List.set_cons_succ]
          apply wpB_val rfl
          · (intro w' hw'; obtain ⟨c0, c1, c2, c3, c4, c5, c6, c7, c8, c9, c10, c11, c12, c13⟩ := HCC.out w' hw'; go_simp; with_reducible rfl)
          simp only [Act.put, List.setIfInBounds_toArray, List.set_cons_zero, List.set_cons_succ]
          ((with_reducible refine wpB_move ?_ ?_); exact rfl; simp only [Act.put, List.setIfInBounds_toArray, List.set_cons_zero, List.set_cons_succ])
          apply wpB_val rfl
          · (intro w' hw'; obtain ⟨c0, c1, c2, c3, c4, c5, c6, c7, c8, c9, c10, c11, c12, c13⟩ := HCC.out w' hw'; go_simp; with_reducible rfl)
          simp only [Act.put, List.setIfInBounds_toArray, List.set_cons_zero, List.set_cons_succ]
          apply wpB_val rfl
          · (intro w' hw'; obtain ⟨c0, c1, c2, c3, c4, c5, c6, c7, c8, c9, c10, c11, c12, c13⟩ := HCC.out w' hw'; go_simp; with_reducible rfl)
          simp only [Act.put, List.setIfInBounds_toArray, List.set_cons_zero, List.set_cons_succ]
          apply wpB_call 13 #[recV r, .int .u64 (k.k3 : Nat)] rfl (v := _)
          · (intro w'; go_simp)
          · exact fun w' hw' => HS.out w'
          simp only [Act.put, List.setIfInBounds_toArray, List.set_cons_zero, List.set_cons_succ]
          apply wpB_val rfl
          · (intro w' hw'; go_simp; with_reducible rfl)
          simp only [Act.put, List.setIfInBounds_toArray, List.set_cons_zero, List.set_cons_succ]
          refine wpB_nil (HR.out _ (fun w2 hw2 => ?_))
          clear HR HCC
          have HB2 := Lib.hid (below_step HB1.out hw2)
          clear hw2
          go_wp2
          go_roundw
          case rel => exact ⟨4, by omega, rfl, HOK2.out, HB2.out⟩
          case measure => simp [intOf]
        · have hgb : ((r.g3 : Int) == (G : Int)) = false := by rw [beq_eq_false_iff_ne]; omega
          obtain rfl : 3 = V := by rw [← HV.out]; exact (HNE.out hg).symm
          go_wp2_with fail
          refine wp_region_B 10 (fun w'' => Below wr.heap.size wr w'') mixed (by kernel_rfl) (below_closed wr) (Below.refl _ _).drew ?_
          simp only [List.take_succ_cons, List.take_zero, List.drop_succ_cons, List.drop_zero]
          intro KR hR
          have HR := Lib.hid hR
          clear hR
          have HCC := Lib.hid (show ∀ w'', Below wr.heap.size wr w'' → w''.cell? ⟨w.heap.size, 0, none⟩ = some (.int .i64 r.se) ∧ w''.cell? ⟨w.heap.size, 1, none⟩ = some (.int .i64 r.ch) ∧ w''.cell? ⟨w.heap.size, 2, none⟩ = some (.int .i64 r.ca) ∧ w''.cell? ⟨w.heap.size, 3, none⟩ = some (.int .i64 r.ho) ∧ w''.cell? ⟨w.heap.size, 4, none⟩ = some (.int .i64 r.hs) ∧ w''.cell? ⟨w.heap.size, 5, none⟩ = some (.int .i64 r.fi) ∧ w''.cell? ⟨w.heap.size, 6, none⟩ = some (.int .i64 r.la) ∧ w''.cell? ⟨w.heap.size, 7, none⟩ = some (.int .i64 r.en) ∧ w''.cell? ⟨w.heap.size, 8, none⟩ = some (.int .i64 r.am) ∧ w''.cell? ⟨w.heap.size, 9, none⟩ = some (.int .u64 (r.g0 : Nat)) ∧ w''.cell? ⟨w.heap.size, 10, none⟩ = some (.int .u64 (r.g1 : Nat)) ∧ w''.cell? ⟨w.heap.size, 11, none⟩ = some (.int .u64 (r.g2 : Nat)) ∧ w''.cell? ⟨w.heap.size, 12, none⟩ = some (.int .u64 (r.g3 : Nat)) ∧ w''.cell? ⟨w.heap.size + 1, 3, none⟩ = some (.int .u64 (k.k3 : Nat)) from fun w'' hw => ⟨(HX1.out.later hw).cell 0, (HX1.out.later hw).cell 1, (HX1.out.later hw).cell 2, (HX1.out.later hw).cell 3, (HX1.out.later hw).cell 4, (HX1.out.later hw).cell 5, (HX1.out.later hw).cell 6, (HX1.out.later hw).cell 7, (HX1.out.later hw).cell 8, (HX1.out.later hw).cell 9, (HX1.out.later hw).cell 10, (HX1.out.later hw).cell 11, (HX1.out.later hw).cell 12, (HK1.out.later hw).cell 3⟩)
          ((with_reducible refine wpB_move ?_ ?_); exact rfl; simp only [Act.put, List.setIfInBounds_toArray, List.set_cons_zero, List.set_cons_succ])
          apply wpB_val rfl
          · (intro w' hw'; obtain ⟨c0, c1, c2, c3, c4, c5, c6, c7, c8, c9, c10, c11, c12, c13⟩ := HCC.out w' hw'; go_simp; with_reducible rfl)
          simp only [Act.put, List.setIfInBounds_toArray, List.set_cons_zero, List.set_cons_succ]
          apply wpB_val rfl
          · (intro w' hw'; obtain ⟨c0, c1, c2, c3, c4, c5, c6, c7, c8, c9, c10, c11, c12, c13⟩ := HCC.out w' hw'; go_simp; with_reducible rfl)
          simp only [Act.put, List.setIfInBounds_toArray, List.set_cons_zero, List.set_cons_succ]
          apply wpB_val rfl
          · (intro w' hw'; obtain ⟨c0, c1, c2, c3, c4, c5, c6, c7, c8, c9, c10, c11, c12, c13⟩ := HCC.out w' hw'; go_simp; with_reducible rfl)
          simp only [Act.put, List.setIfInBounds_toArray, List.set_cons_zero, List.set_cons_succ]
          apply wpB_val rfl
          · (intro w' hw'; obtain ⟨c0, c1, c2, c3, c4, c5, c6, c7, c8, c9, c10, c11, c12, c13⟩ := HCC.out w' hw'; go_simp; with_reducible rfl)
          simp only [Act.put, List.setIfInBounds_toArray, List.set_cons_zero, List.set_cons_succ]
          ((with_reducible refine wpB_move ?_ ?_); exact rfl; simp only [Act.put, List.setIfInBounds_toArray, List.set_cons_zero, List.set_cons_succ])
          apply wpB_val rfl
          · (intro w' hw'; obtain ⟨c0, c1, c2, c3, c4, c5, c6, c7, c8, c9, c10, c11, c12, c13⟩ := HCC.out w' hw'; go_simp; with_reducible rfl)
          simp only [Act.put, List.setIfInBounds_toArray, List.set_cons_zero, List.set_cons_succ]
          apply wpB_val rfl
          · (intro w' hw'; obtain ⟨c0, c1, c2, c3, c4, c5, c6, c7, c8, c9, c10, c11, c12, c13⟩ := HCC.out w' hw'; go_simp; with_reducible rfl)
          simp only [Act.put, List.setIfInBounds_toArray, List.set_cons_zero, List.set_cons_succ]
          apply wpB_call 13 #[recV r, .int .u64 (k.k3 : Nat)] rfl (v := _)
          · (intro w'; go_simp)
          · exact fun w' hw' => HS.out w'
          simp only [Act.put, List.setIfInBounds_toArray, List.set_cons_zero, List.set_cons_succ]
          apply wpB_val rfl
          · (intro w' hw'; go_simp; with_reducible rfl)
          simp only [Act.put, List.setIfInBounds_toArray, List.set_cons_zero, List.set_cons_succ]
          refine wpB_nil (HR.out _ (fun w2 hw2 => ?_))
          clear HR HCC
          have HB2 := Lib.hid (below_step HB1.out hw2)
          clear hw2
          go_wp2
          go_ret
          exact ⟨rfl, below_step HB.out HB2.out⟩
      · rw [show ((4 : Nat) : Int) = 4 from rfl]
        obtain rfl : -1 = V := by rw [← HV.out]; exact (chkC_all HVA.out HOK.out).symm
        go_wp2
        go_ret
        exact ⟨rfl, below_step HB.out HB1.out⟩

end Go.Proofs.Ytddbobphmakmmaa
