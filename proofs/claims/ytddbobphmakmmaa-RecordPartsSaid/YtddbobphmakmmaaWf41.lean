/- Chapter 41: RecordKeys. -/
import Derived.Test.YtddbobphmakmmaaWe41
namespace Go.Proofs.Ytddbobphmakmmaa
open Go.RowKit
attribute [local go_sem] Oper.semAt_some

theorem two_boxes (w : World) (r : Rc) (k : K4) {w1 : World} (hb : Below ((w.alloc (.cells #[.int .i64 r.se, .int .i64 r.ch, .int .i64 r.ca, .int .i64 r.ho, .int .i64 r.hs, .int .i64 r.fi, .int .i64 r.la, .int .i64 r.en, .int .i64 r.am, .int .u64 (r.g0 : Nat), .int .u64 (r.g1 : Nat), .int .u64 (r.g2 : Nat), .int .u64 (r.g3 : Nat)] 25)).alloc (.cells #[.int .u64 (k.k0 : Nat), .int .u64 (k.k1 : Nat), .int .u64 (k.k2 : Nat), .int .u64 (k.k3 : Nat)] 23)).heap.size ((w.alloc (.cells #[.int .i64 r.se, .int .i64 r.ch, .int .i64 r.ca, .int .i64 r.ho, .int .i64 r.hs, .int .i64 r.fi, .int .i64 r.la, .int .i64 r.en, .int .i64 r.am, .int .u64 (r.g0 : Nat), .int .u64 (r.g1 : Nat), .int .u64 (r.g2 : Nat), .int .u64 (r.g3 : Nat)] 25)).alloc (.cells #[.int .u64 (k.k0 : Nat), .int .u64 (k.k1 : Nat), .int .u64 (k.k2 : Nat), .int .u64 (k.k3 : Nat)] 23)) w1) :
    RcB w1 w.heap.size r ∧ KyB w1 (w.heap.size + 1) k ∧ Below w.heap.size w w1 := by
  refine ⟨((RcB.new w r).later (below_alloc (Below.refl _ _) _)).later hb, ?_, below_step (below_alloc (below_alloc (Below.refl _ _) _) _) hb⟩
  have h := Blk.new (w.alloc (.cells #[.int .i64 r.se, .int .i64 r.ch, .int .i64 r.ca, .int .i64 r.ho, .int .i64 r.hs, .int .i64 r.fi, .int .i64 r.la, .int .i64 r.en, .int .i64 r.am, .int .u64 (r.g0 : Nat), .int .u64 (r.g1 : Nat), .int .u64 (r.g2 : Nat), .int .u64 (r.g3 : Nat)] 25)) 23 #[.int .u64 (k.k0 : Nat), .int .u64 (k.k1 : Nat), .int .u64 (k.k2 : Nat), .int .u64 (k.k3 : Nat)]
  rw [World.size_alloc] at h
  exact KyB.later h hb

theorem chkC_key0 {r : Rc} {k : K4} {key : Nat} (hk : key < 18446744073709551616) (hne : k.k0 ≠ key) (h : chkC r k = -1) : chkC r ⟨key, k.k1, k.k2, k.k3, hk, k.h1, k.h2, k.h3⟩ = 0 := by
  obtain ⟨hv, h0, h1, h2, h3⟩ := chkC_ok h
  have hq : ¬ r.g0 = sig r key := fun e => hne (sig_inj k.h0 hk (h0.symm.trans e))
  exact chkC_at0 hv ⟨fun hh => absurd hh (by decide), fun hh => absurd hh (by decide), fun hh => absurd hh (by decide), fun hh => absurd hh (by decide)⟩ hq
theorem chkC_key1 {r : Rc} {k : K4} {key : Nat} (hk : key < 18446744073709551616) (hne : k.k1 ≠ key) (h : chkC r k = -1) : chkC r ⟨k.k0, key, k.k2, k.k3, k.h0, hk, k.h2, k.h3⟩ = 1 := by
  obtain ⟨hv, h0, h1, h2, h3⟩ := chkC_ok h
  have hq : ¬ r.g1 = sig r key := fun e => hne (sig_inj k.h1 hk (h1.symm.trans e))
  exact chkC_at1 hv ⟨fun hh => h0, fun hh => absurd hh (by decide), fun hh => absurd hh (by decide), fun hh => absurd hh (by decide)⟩ hq
theorem chkC_key2 {r : Rc} {k : K4} {key : Nat} (hk : key < 18446744073709551616) (hne : k.k2 ≠ key) (h : chkC r k = -1) : chkC r ⟨k.k0, k.k1, key, k.k3, k.h0, k.h1, hk, k.h3⟩ = 2 := by
  obtain ⟨hv, h0, h1, h2, h3⟩ := chkC_ok h
  have hq : ¬ r.g2 = sig r key := fun e => hne (sig_inj k.h2 hk (h2.symm.trans e))
  exact chkC_at2 hv ⟨fun hh => h0, fun hh => h1, fun hh => absurd hh (by decide), fun hh => absurd hh (by decide)⟩ hq
theorem chkC_key3 {r : Rc} {k : K4} {key : Nat} (hk : key < 18446744073709551616) (hne : k.k3 ≠ key) (h : chkC r k = -1) : chkC r ⟨k.k0, k.k1, k.k2, key, k.h0, k.h1, k.h2, hk⟩ = 3 := by
  obtain ⟨hv, h0, h1, h2, h3⟩ := chkC_ok h
  have hq : ¬ r.g3 = sig r key := fun e => hne (sig_inj k.h3 hk (h3.symm.trans e))
  exact chkC_at3 hv ⟨fun hh => h0, fun hh => h1, fun hh => h2, fun hh => absurd hh (by decide)⟩ hq
set_option maxRecDepth 100000 in
set_option maxHeartbeats 8000000 in
theorem recordKeys_any (r : Rc) (k : K4) (which key : Nat) (w : World) (hw : which < 256) (hkey : key < 18446744073709551616) :
    Calls Try.prog 6 #[recV r, keyV k, .int .u8 (which : Nat), .int .u64 (key : Nat)] w (Ret (.bool true) w) := by
  go_enter Try.func6, Try.ntmps6
  go_wp2_with fail
  refine (head_any _).mono ?_
  rintro e w1 ⟨rfl, hb1⟩
  have HTB := Lib.hid (two_boxes w r k hb1)
  have HX := Lib.hid HTB.out.1
  have HK := Lib.hid HTB.out.2.1
  have HB := Lib.hid HTB.out.2.2
  clear hb1 HTB
  have zz := HK.out.lt
  obtain ⟨k0, k1, k2, k3⟩ := HK.out.keys
  rcases (by omega : which % 4 = 0 ∨ which % 4 = 1 ∨ which % 4 = 2 ∨ which % 4 = 3) with h4 | h4 | h4 | h4
  · have hq4 : (which : Int) % 4 = 0 := by omega
    by_cases hkk : k.k0 = key
    · subst hkk
      go_wp2
      go_ret
      exact ⟨rfl, HB.out⟩
    have hkb : ((k.k0 : Int) == (key : Int)) = false := by rw [beq_eq_false_iff_ne]; omega
    have HS1 := Lib.hid (fun w' => rSign_any r k.k0 k.h0 w')
    have HS2 := Lib.hid (fun w' => rSign_any r key hkey w')
    have HSN := Lib.hid (show ¬ sig r k.k0 = sig r key from fun e => hkk (sig_inj k.h0 hkey e))
    obtain ⟨k', hk'⟩ : ∃ k' : K4, k' = ⟨key, k.k1, k.k2, k.k3, hkey, k.h1, k.h2, k.h3⟩ := ⟨_, rfl⟩
    have HC1 := Lib.hid (fun w' => rCheck_any r k w')
    have HC2 := Lib.hid (fun w' => rCheck_any r k' w')
    have HCN := Lib.hid (fun h : chkC r k = -1 => show chkC r k' = 0 by rw [hk']; exact chkC_key0 hkey hkk h)
    obtain ⟨S1, hS1⟩ : ∃ S, sig r k.k0 = S := ⟨_, rfl⟩
    obtain ⟨S2, hS2⟩ : ∃ S, sig r key = S := ⟨_, rfl⟩
    rw [hS1] at HS1 HSN
    rw [hS2] at HS2 HSN
    clear hS1 hS2 h4
    have hsn : ((S1 : Int) == (S2 : Int)) = false := by rw [beq_eq_false_iff_ne]; have := HSN.out; omega
    have hsn2 : ((S1 : Int) != (S2 : Int)) = true := by rw [bne, hsn]; rfl
    go_wp2_with fail
    clear k0 k1 k2 k3
    have HO := Lib.hid (show KyB (w1.alloc (.cells #[.int .u64 (key : Nat), .int .u64 (k.k1 : Nat), .int .u64 (k.k2 : Nat), .int .u64 (k.k3 : Nat)] 23)) w1.heap.size k' by rw [hk']; exact Blk.new ..)
    have HX2 := Lib.hid (HX.out.later (below_alloc (Below.refl _ _) (.cells #[.int .u64 (key : Nat), .int .u64 (k.k1 : Nat), .int .u64 (k.k2 : Nat), .int .u64 (k.k3 : Nat)] 23)))
    have HK2 := Lib.hid (HK.out.later (below_alloc (Below.refl _ _) (.cells #[.int .u64 (key : Nat), .int .u64 (k.k1 : Nat), .int .u64 (k.k2 : Nat), .int .u64 (k.k3 : Nat)] 23)))
    have HB2 := Lib.hid (below_alloc HB.out (.cells #[.int .u64 (key : Nat), .int .u64 (k.k1 : Nat), .int .u64 (k.k2 : Nat), .int .u64 (k.k3 : Nat)] 23))
    obtain ⟨W, hW⟩ : ∃ W, w1.alloc (.cells #[.int .u64 (key : Nat), .int .u64 (k.k1 : Nat), .int .u64 (k.k2 : Nat), .int .u64 (k.k3 : Nat)] 23) = W := ⟨_, rfl⟩
    rw [hW] at HO HX2 HK2 HB2 ⊢
    clear hW hk'
    by_cases hc : chkC r k = -1
    · rw [hc] at HC1
      rw [HCN.out hc] at HC2
      clear hc
      refine wp_region_B 25 (fun w'' => Below W.heap.size W w'') mixed (by kernel_rfl) (below_closed W) (Below.refl _ _).drew ?_
      simp only [List.take_succ_cons, List.take_zero, List.drop_succ_cons, List.drop_zero]
      intro KR hR
      have HR := Lib.hid hR
      clear hR
      have HCC := Lib.hid (show ∀ w'', Below W.heap.size W w'' → w''.cell? ⟨w.heap.size, 0, none⟩ = some (.int .i64 r.se) ∧ w''.cell? ⟨w.heap.size, 1, none⟩ = some (.int .i64 r.ch) ∧ w''.cell? ⟨w.heap.size, 2, none⟩ = some (.int .i64 r.ca) ∧ w''.cell? ⟨w.heap.size, 3, none⟩ = some (.int .i64 r.ho) ∧ w''.cell? ⟨w.heap.size, 4, none⟩ = some (.int .i64 r.hs) ∧ w''.cell? ⟨w.heap.size, 5, none⟩ = some (.int .i64 r.fi) ∧ w''.cell? ⟨w.heap.size, 6, none⟩ = some (.int .i64 r.la) ∧ w''.cell? ⟨w.heap.size, 7, none⟩ = some (.int .i64 r.en) ∧ w''.cell? ⟨w.heap.size, 8, none⟩ = some (.int .i64 r.am) ∧ w''.cell? ⟨w.heap.size, 9, none⟩ = some (.int .u64 (r.g0 : Nat)) ∧ w''.cell? ⟨w.heap.size, 10, none⟩ = some (.int .u64 (r.g1 : Nat)) ∧ w''.cell? ⟨w.heap.size, 11, none⟩ = some (.int .u64 (r.g2 : Nat)) ∧ w''.cell? ⟨w.heap.size, 12, none⟩ = some (.int .u64 (r.g3 : Nat)) ∧ w''.cell? ⟨w.heap.size + 1, 0, none⟩ = some (.int .u64 (k.k0 : Nat)) ∧ w''.cell? ⟨w.heap.size + 1, 1, none⟩ = some (.int .u64 (k.k1 : Nat)) ∧ w''.cell? ⟨w.heap.size + 1, 2, none⟩ = some (.int .u64 (k.k2 : Nat)) ∧ w''.cell? ⟨w.heap.size + 1, 3, none⟩ = some (.int .u64 (k.k3 : Nat)) ∧ w''.cell? ⟨w1.heap.size, 0, none⟩ = some (.int .u64 (k'.k0 : Nat)) ∧ w''.cell? ⟨w1.heap.size, 1, none⟩ = some (.int .u64 (k'.k1 : Nat)) ∧ w''.cell? ⟨w1.heap.size, 2, none⟩ = some (.int .u64 (k'.k2 : Nat)) ∧ w''.cell? ⟨w1.heap.size, 3, none⟩ = some (.int .u64 (k'.k3 : Nat)) from fun w'' hw => ⟨(HX2.out.later hw).cell 0, (HX2.out.later hw).cell 1, (HX2.out.later hw).cell 2, (HX2.out.later hw).cell 3, (HX2.out.later hw).cell 4, (HX2.out.later hw).cell 5, (HX2.out.later hw).cell 6, (HX2.out.later hw).cell 7, (HX2.out.later hw).cell 8, (HX2.out.later hw).cell 9, (HX2.out.later hw).cell 10, (HX2.out.later hw).cell 11, (HX2.out.later hw).cell 12, (HK2.out.later hw).cell 0, (HK2.out.later hw).cell 1, (HK2.out.later hw).cell 2, (HK2.out.later hw).cell 3, (HO.out.later hw).cell 0, (HO.out.later hw).cell 1, (HO.out.later hw).cell 2, (HO.out.later hw).cell 3⟩)
      ((with_reducible refine wpB_move ?_ ?_); exact rfl; simp only [Act.put, List.setIfInBounds_toArray, List.set_cons_zero, List.set_cons_succ])
      ((with_reducible refine wpB_move ?_ ?_); exact rfl; simp only [Act.put, List.setIfInBounds_toArray, List.set_cons_zero, List.set_cons_succ])
      apply wpB_val rfl
      · (intro w' hw'; obtain ⟨c0, c1, c2, c3, c4, c5, c6, c7, c8, c9, c10, c11, c12, c13, c14, c15, c16, c17, c18, c19, c20⟩ := HCC.out w' hw'; go_simp; with_reducible rfl)
      simp only [Act.put, List.setIfInBounds_toArray, List.set_cons_zero, List.set_cons_succ]
      ((with_reducible refine wpB_move ?_ ?_); exact rfl; simp only [Act.put, List.setIfInBounds_toArray, List.set_cons_zero, List.set_cons_succ])
      apply wpB_val rfl
      · (intro w' hw'; go_simp; with_reducible rfl)
      simp only [Act.put, List.setIfInBounds_toArray, List.set_cons_zero, List.set_cons_succ]
      apply wpB_val rfl
      · (intro w' hw'; obtain ⟨c0, c1, c2, c3, c4, c5, c6, c7, c8, c9, c10, c11, c12, c13, c14, c15, c16, c17, c18, c19, c20⟩ := HCC.out w' hw'; go_simp; with_reducible rfl)
      simp only [Act.put, List.setIfInBounds_toArray, List.set_cons_zero, List.set_cons_succ]
      apply wpB_call 12 #[recV r, .int .u64 (k.k0 : Nat)] rfl (v := _)
      · (intro w'; go_simp)
      · exact fun w' hw' => HS1.out w'
      simp only [Act.put, List.setIfInBounds_toArray, List.set_cons_zero, List.set_cons_succ]
      apply wpB_val rfl
      · (intro w' hw'; obtain ⟨c0, c1, c2, c3, c4, c5, c6, c7, c8, c9, c10, c11, c12, c13, c14, c15, c16, c17, c18, c19, c20⟩ := HCC.out w' hw'; go_simp; with_reducible rfl)
      simp only [Act.put, List.setIfInBounds_toArray, List.set_cons_zero, List.set_cons_succ]
      ((with_reducible refine wpB_move ?_ ?_); exact rfl; simp only [Act.put, List.setIfInBounds_toArray, List.set_cons_zero, List.set_cons_succ])
      apply wpB_call 12 #[recV r, .int .u64 (key : Nat)] rfl (v := _)
      · (intro w'; go_simp)
      · exact fun w' hw' => HS2.out w'
      simp only [Act.put, List.setIfInBounds_toArray, List.set_cons_zero, List.set_cons_succ]
      apply wpB_val rfl
      · (intro w' hw'; go_simp; with_reducible rfl)
      simp only [Act.put, List.setIfInBounds_toArray, List.set_cons_zero, List.set_cons_succ]
      apply wpB_val rfl
      · (intro w' hw'; go_simp; with_reducible rfl)
      simp only [Act.put, List.setIfInBounds_toArray, List.set_cons_zero, List.set_cons_succ]
      ((with_reducible refine wpB_move ?_ ?_); exact rfl; simp only [Act.put, List.setIfInBounds_toArray, List.set_cons_zero, List.set_cons_succ])
      apply wpB_val rfl
      · (intro w' hw'; obtain ⟨c0, c1, c2, c3, c4, c5, c6, c7, c8, c9, c10, c11, c12, c13, c14, c15, c16, c17, c18, c19, c20⟩ := HCC.out w' hw'; go_simp; with_reducible rfl)
      simp only [Act.put, List.setIfInBounds_toArray, List.set_cons_zero, List.set_cons_succ]
      apply wpB_val rfl
      · (intro w' hw'; obtain ⟨c0, c1, c2, c3, c4, c5, c6, c7, c8, c9, c10, c11, c12, c13, c14, c15, c16, c17, c18, c19, c20⟩ := HCC.out w' hw'; go_simp; with_reducible rfl)
      simp only [Act.put, List.setIfInBounds_toArray, List.set_cons_zero, List.set_cons_succ]
      apply wpB_call 14 #[recV r, keyV k] rfl (v := _)
      · (intro w'; go_simp)
      · exact fun w' hw' => HC1.out w'
      simp only [Act.put, List.setIfInBounds_toArray, List.set_cons_zero, List.set_cons_succ]
      apply wpB_val rfl
      · (intro w' hw'; go_simp; with_reducible rfl)
      simp only [Act.put, List.setIfInBounds_toArray, List.set_cons_zero, List.set_cons_succ]
      ((with_reducible refine wpB_move ?_ ?_); exact rfl; simp only [Act.put, List.setIfInBounds_toArray, List.set_cons_zero, List.set_cons_succ])
      apply wpB_val rfl
      · (intro w' hw'; obtain ⟨c0, c1, c2, c3, c4, c5, c6, c7, c8, c9, c10, c11, c12, c13, c14, c15, c16, c17, c18, c19, c20⟩ := HCC.out w' hw'; go_simp; with_reducible rfl)
      simp only [Act.put, List.setIfInBounds_toArray, List.set_cons_zero, List.set_cons_succ]
      apply wpB_val rfl
      · (intro w' hw'; obtain ⟨c0, c1, c2, c3, c4, c5, c6, c7, c8, c9, c10, c11, c12, c13, c14, c15, c16, c17, c18, c19, c20⟩ := HCC.out w' hw'; go_simp; with_reducible rfl)
      simp only [Act.put, List.setIfInBounds_toArray, List.set_cons_zero, List.set_cons_succ]
      apply wpB_call 14 #[recV r, keyV k'] rfl (v := _)
      · (intro w'; go_simp)
      · exact fun w' hw' => HC2.out w'
      simp only [Act.put, List.setIfInBounds_toArray, List.set_cons_zero, List.set_cons_succ]
      ((with_reducible refine wpB_move ?_ ?_); exact rfl; simp only [Act.put, List.setIfInBounds_toArray, List.set_cons_zero, List.set_cons_succ])
      apply wpB_val rfl
      · (intro w' hw'; go_simp; with_reducible rfl)
      simp only [Act.put, List.setIfInBounds_toArray, List.set_cons_zero, List.set_cons_succ]
      apply wpB_val rfl
      · (intro w' hw'; go_simp; with_reducible rfl)
      simp only [Act.put, List.setIfInBounds_toArray, List.set_cons_zero, List.set_cons_succ]
      apply wpB_val rfl
      · (intro w' hw'; go_simp; with_reducible rfl)
      simp only [Act.put, List.setIfInBounds_toArray, List.set_cons_zero, List.set_cons_succ]
      refine wpB_nil (HR.out _ (fun w2 hw2 => ?_))
      clear HR HCC
      have HB3 := Lib.hid (below_step HB2.out hw2)
      clear hw2
      go_wp2
      go_ret
      exact ⟨rfl, HB3.out⟩
    · have hcb : (chkC r k == -1) = false := by simpa using hc
      obtain ⟨C, hC⟩ : ∃ C, chkC r k = C := ⟨_, rfl⟩
      rw [hC] at HC1 hcb
      have hcb2 : (C != -1) = true := by rw [bne, hcb]; rfl
      clear hc hC
      refine wp_region_B 25 (fun w'' => Below W.heap.size W w'') mixed (by kernel_rfl) (below_closed W) (Below.refl _ _).drew ?_
      simp only [List.take_succ_cons, List.take_zero, List.drop_succ_cons, List.drop_zero]
      intro KR hR
      have HR := Lib.hid hR
      clear hR
      have HCC := Lib.hid (show ∀ w'', Below W.heap.size W w'' → w''.cell? ⟨w.heap.size, 0, none⟩ = some (.int .i64 r.se) ∧ w''.cell? ⟨w.heap.size, 1, none⟩ = some (.int .i64 r.ch) ∧ w''.cell? ⟨w.heap.size, 2, none⟩ = some (.int .i64 r.ca) ∧ w''.cell? ⟨w.heap.size, 3, none⟩ = some (.int .i64 r.ho) ∧ w''.cell? ⟨w.heap.size, 4, none⟩ = some (.int .i64 r.hs) ∧ w''.cell? ⟨w.heap.size, 5, none⟩ = some (.int .i64 r.fi) ∧ w''.cell? ⟨w.heap.size, 6, none⟩ = some (.int .i64 r.la) ∧ w''.cell? ⟨w.heap.size, 7, none⟩ = some (.int .i64 r.en) ∧ w''.cell? ⟨w.heap.size, 8, none⟩ = some (.int .i64 r.am) ∧ w''.cell? ⟨w.heap.size, 9, none⟩ = some (.int .u64 (r.g0 : Nat)) ∧ w''.cell? ⟨w.heap.size, 10, none⟩ = some (.int .u64 (r.g1 : Nat)) ∧ w''.cell? ⟨w.heap.size, 11, none⟩ = some (.int .u64 (r.g2 : Nat)) ∧ w''.cell? ⟨w.heap.size, 12, none⟩ = some (.int .u64 (r.g3 : Nat)) ∧ w''.cell? ⟨w.heap.size + 1, 0, none⟩ = some (.int .u64 (k.k0 : Nat)) ∧ w''.cell? ⟨w.heap.size + 1, 1, none⟩ = some (.int .u64 (k.k1 : Nat)) ∧ w''.cell? ⟨w.heap.size + 1, 2, none⟩ = some (.int .u64 (k.k2 : Nat)) ∧ w''.cell? ⟨w.heap.size + 1, 3, none⟩ = some (.int .u64 (k.k3 : Nat)) ∧ w''.cell? ⟨w1.heap.size, 0, none⟩ = some (.int .u64 (k'.k0 : Nat)) ∧ w''.cell? ⟨w1.heap.size, 1, none⟩ = some (.int .u64 (k'.k1 : Nat)) ∧ w''.cell? ⟨w1.heap.size, 2, none⟩ = some (.int .u64 (k'.k2 : Nat)) ∧ w''.cell? ⟨w1.heap.size, 3, none⟩ = some (.int .u64 (k'.k3 : Nat)) from fun w'' hw => ⟨(HX2.out.later hw).cell 0, (HX2.out.later hw).cell 1, (HX2.out.later hw).cell 2, (HX2.out.later hw).cell 3, (HX2.out.later hw).cell 4, (HX2.out.later hw).cell 5, (HX2.out.later hw).cell 6, (HX2.out.later hw).cell 7, (HX2.out.later hw).cell 8, (HX2.out.later hw).cell 9, (HX2.out.later hw).cell 10, (HX2.out.later hw).cell 11, (HX2.out.later hw).cell 12, (HK2.out.later hw).cell 0, (HK2.out.later hw).cell 1, (HK2.out.later hw).cell 2, (HK2.out.later hw).cell 3, (HO.out.later hw).cell 0, (HO.out.later hw).cell 1, (HO.out.later hw).cell 2, (HO.out.later hw).cell 3⟩)
      ((with_reducible refine wpB_move ?_ ?_); exact rfl; simp only [Act.put, List.setIfInBounds_toArray, List.set_cons_zero, List.set_cons_succ])
      ((with_reducible refine wpB_move ?_ ?_); exact rfl; simp only [Act.put, List.setIfInBounds_toArray, List.set_cons_zero, List.set_cons_succ])
      apply wpB_val rfl
      · (intro w' hw'; obtain ⟨c0, c1, c2, c3, c4, c5, c6, c7, c8, c9, c10, c11, c12, c13, c14, c15, c16, c17, c18, c19, c20⟩ := HCC.out w' hw'; go_simp; with_reducible rfl)
      simp only [Act.put, List.setIfInBounds_toArray, List.set_cons_zero, List.set_cons_succ]
      ((with_reducible refine wpB_move ?_ ?_); exact rfl; simp only [Act.put, List.setIfInBounds_toArray, List.set_cons_zero, List.set_cons_succ])
      apply wpB_val rfl
      · (intro w' hw'; go_simp; with_reducible rfl)
      simp only [Act.put, List.setIfInBounds_toArray, List.set_cons_zero, List.set_cons_succ]
      apply wpB_val rfl
      · (intro w' hw'; obtain ⟨c0, c1, c2, c3, c4, c5, c6, c7, c8, c9, c10, c11, c12, c13, c14, c15, c16, c17, c18, c19, c20⟩ := HCC.out w' hw'; go_simp; with_reducible rfl)
      simp only [Act.put, List.setIfInBounds_toArray, List.set_cons_zero, List.set_cons_succ]
      apply wpB_call 12 #[recV r, .int .u64 (k.k0 : Nat)] rfl (v := _)
      · (intro w'; go_simp)
      · exact fun w' hw' => HS1.out w'
      simp only [Act.put, List.setIfInBounds_toArray, List.set_cons_zero, List.set_cons_succ]
      apply wpB_val rfl
      · (intro w' hw'; obtain ⟨c0, c1, c2, c3, c4, c5, c6, c7, c8, c9, c10, c11, c12, c13, c14, c15, c16, c17, c18, c19, c20⟩ := HCC.out w' hw'; go_simp; with_reducible rfl)
      simp only [Act.put, List.setIfInBounds_toArray, List.set_cons_zero, List.set_cons_succ]
      ((with_reducible refine wpB_move ?_ ?_); exact rfl; simp only [Act.put, List.setIfInBounds_toArray, List.set_cons_zero, List.set_cons_succ])
      apply wpB_call 12 #[recV r, .int .u64 (key : Nat)] rfl (v := _)
      · (intro w'; go_simp)
      · exact fun w' hw' => HS2.out w'
      simp only [Act.put, List.setIfInBounds_toArray, List.set_cons_zero, List.set_cons_succ]
      apply wpB_val rfl
      · (intro w' hw'; go_simp; with_reducible rfl)
      simp only [Act.put, List.setIfInBounds_toArray, List.set_cons_zero, List.set_cons_succ]
      apply wpB_val rfl
      · (intro w' hw'; go_simp; with_reducible rfl)
      simp only [Act.put, List.setIfInBounds_toArray, List.set_cons_zero, List.set_cons_succ]
      ((with_reducible refine wpB_move ?_ ?_); exact rfl; simp only [Act.put, List.setIfInBounds_toArray, List.set_cons_zero, List.set_cons_succ])
      apply wpB_val rfl
      · (intro w' hw'; obtain ⟨c0, c1, c2, c3, c4, c5, c6, c7, c8, c9, c10, c11, c12, c13, c14, c15, c16, c17, c18, c19, c20⟩ := HCC.out w' hw'; go_simp; with_reducible rfl)
      simp only [Act.put, List.setIfInBounds_toArray, List.set_cons_zero, List.set_cons_succ]
      apply wpB_val rfl
      · (intro w' hw'; obtain ⟨c0, c1, c2, c3, c4, c5, c6, c7, c8, c9, c10, c11, c12, c13, c14, c15, c16, c17, c18, c19, c20⟩ := HCC.out w' hw'; go_simp; with_reducible rfl)
      simp only [Act.put, List.setIfInBounds_toArray, List.set_cons_zero, List.set_cons_succ]
      apply wpB_call 14 #[recV r, keyV k] rfl (v := _)
      · (intro w'; go_simp)
      · exact fun w' hw' => HC1.out w'
      simp only [Act.put, List.setIfInBounds_toArray, List.set_cons_zero, List.set_cons_succ]
      apply wpB_val rfl
      · (intro w' hw'; go_simp; with_reducible rfl)
      simp only [Act.put, List.setIfInBounds_toArray, List.set_cons_zero, List.set_cons_succ]
      ((with_reducible refine wpB_move ?_ ?_); exact rfl; simp only [Act.put, List.setIfInBounds_toArray, List.set_cons_zero, List.set_cons_succ])
      ((with_reducible refine wpB_skip ?_ ?_); exact rfl; simp only [Act.put, List.setIfInBounds_toArray, List.set_cons_zero, List.set_cons_succ])
      ((with_reducible refine wpB_skip ?_ ?_); exact rfl; simp only [Act.put, List.setIfInBounds_toArray, List.set_cons_zero, List.set_cons_succ])
      ((with_reducible refine wpB_skip ?_ ?_); exact rfl; simp only [Act.put, List.setIfInBounds_toArray, List.set_cons_zero, List.set_cons_succ])
      ((with_reducible refine wpB_skip ?_ ?_); exact rfl; simp only [Act.put, List.setIfInBounds_toArray, List.set_cons_zero, List.set_cons_succ])
      ((with_reducible refine wpB_skip ?_ ?_); exact rfl; simp only [Act.put, List.setIfInBounds_toArray, List.set_cons_zero, List.set_cons_succ])
      apply wpB_val rfl
      · (intro w' hw'; go_simp; with_reducible rfl)
      simp only [Act.put, List.setIfInBounds_toArray, List.set_cons_zero, List.set_cons_succ]
      apply wpB_val rfl
      · (intro w' hw'; go_simp; with_reducible rfl)
      simp only [Act.put, List.setIfInBounds_toArray, List.set_cons_zero, List.set_cons_succ]
      refine wpB_nil (HR.out _ (fun w2 hw2 => ?_))
      clear HR HCC
      have HB3 := Lib.hid (below_step HB2.out hw2)
      clear hw2
      go_wp2
      go_ret
      exact ⟨rfl, HB3.out⟩
  · have hq4 : (which : Int) % 4 = 1 := by omega
    by_cases hkk : k.k1 = key
    · subst hkk
      go_wp2
      go_ret
      exact ⟨rfl, HB.out⟩
    have hkb : ((k.k1 : Int) == (key : Int)) = false := by rw [beq_eq_false_iff_ne]; omega
    have HS1 := Lib.hid (fun w' => rSign_any r k.k1 k.h1 w')
    have HS2 := Lib.hid (fun w' => rSign_any r key hkey w')
    have HSN := Lib.hid (show ¬ sig r k.k1 = sig r key from fun e => hkk (sig_inj k.h1 hkey e))
    obtain ⟨k', hk'⟩ : ∃ k' : K4, k' = ⟨k.k0, key, k.k2, k.k3, k.h0, hkey, k.h2, k.h3⟩ := ⟨_, rfl⟩
    have HC1 := Lib.hid (fun w' => rCheck_any r k w')
    have HC2 := Lib.hid (fun w' => rCheck_any r k' w')
    have HCN := Lib.hid (fun h : chkC r k = -1 => show chkC r k' = 1 by rw [hk']; exact chkC_key1 hkey hkk h)
    obtain ⟨S1, hS1⟩ : ∃ S, sig r k.k1 = S := ⟨_, rfl⟩
    obtain ⟨S2, hS2⟩ : ∃ S, sig r key = S := ⟨_, rfl⟩
    rw [hS1] at HS1 HSN
    rw [hS2] at HS2 HSN
    clear hS1 hS2 h4
    have hsn : ((S1 : Int) == (S2 : Int)) = false := by rw [beq_eq_false_iff_ne]; have := HSN.out; omega
    have hsn2 : ((S1 : Int) != (S2 : Int)) = true := by rw [bne, hsn]; rfl
    go_wp2_with fail
    clear k0 k1 k2 k3
    have HO := Lib.hid (show KyB (w1.alloc (.cells #[.int .u64 (k.k0 : Nat), .int .u64 (key : Nat), .int .u64 (k.k2 : Nat), .int .u64 (k.k3 : Nat)] 23)) w1.heap.size k' by rw [hk']; exact Blk.new ..)
    have HX2 := Lib.hid (HX.out.later (below_alloc (Below.refl _ _) (.cells #[.int .u64 (k.k0 : Nat), .int .u64 (key : Nat), .int .u64 (k.k2 : Nat), .int .u64 (k.k3 : Nat)] 23)))
    have HK2 := Lib.hid (HK.out.later (below_alloc (Below.refl _ _) (.cells #[.int .u64 (k.k0 : Nat), .int .u64 (key : Nat), .int .u64 (k.k2 : Nat), .int .u64 (k.k3 : Nat)] 23)))
    have HB2 := Lib.hid (below_alloc HB.out (.cells #[.int .u64 (k.k0 : Nat), .int .u64 (key : Nat), .int .u64 (k.k2 : Nat), .int .u64 (k.k3 : Nat)] 23))
    obtain ⟨W, hW⟩ : ∃ W, w1.alloc (.cells #[.int .u64 (k.k0 : Nat), .int .u64 (key : Nat), .int .u64 (k.k2 : Nat), .int .u64 (k.k3 : Nat)] 23) = W := ⟨_, rfl⟩
    rw [hW] at HO HX2 HK2 HB2 ⊢
    clear hW hk'
    by_cases hc : chkC r k = -1
    · rw [hc] at HC1
      rw [HCN.out hc] at HC2
      clear hc
      refine wp_region_B 25 (fun w'' => Below W.heap.size W w'') mixed (by kernel_rfl) (below_closed W) (Below.refl _ _).drew ?_
      simp only [List.take_succ_cons, List.take_zero, List.drop_succ_cons, List.drop_zero]
      intro KR hR
      have HR := Lib.hid hR
      clear hR
      have HCC := Lib.hid (show ∀ w'', Below W.heap.size W w'' → w''.cell? ⟨w.heap.size, 0, none⟩ = some (.int .i64 r.se) ∧ w''.cell? ⟨w.heap.size, 1, none⟩ = some (.int .i64 r.ch) ∧ w''.cell? ⟨w.heap.size, 2, none⟩ = some (.int .i64 r.ca) ∧ w''.cell? ⟨w.heap.size, 3, none⟩ = some (.int .i64 r.ho) ∧ w''.cell? ⟨w.heap.size, 4, none⟩ = some (.int .i64 r.hs) ∧ w''.cell? ⟨w.heap.size, 5, none⟩ = some (.int .i64 r.fi) ∧ w''.cell? ⟨w.heap.size, 6, none⟩ = some (.int .i64 r.la) ∧ w''.cell? ⟨w.heap.size, 7, none⟩ = some (.int .i64 r.en) ∧ w''.cell? ⟨w.heap.size, 8, none⟩ = some (.int .i64 r.am) ∧ w''.cell? ⟨w.heap.size, 9, none⟩ = some (.int .u64 (r.g0 : Nat)) ∧ w''.cell? ⟨w.heap.size, 10, none⟩ = some (.int .u64 (r.g1 : Nat)) ∧ w''.cell? ⟨w.heap.size, 11, none⟩ = some (.int .u64 (r.g2 : Nat)) ∧ w''.cell? ⟨w.heap.size, 12, none⟩ = some (.int .u64 (r.g3 : Nat)) ∧ w''.cell? ⟨w.heap.size + 1, 0, none⟩ = some (.int .u64 (k.k0 : Nat)) ∧ w''.cell? ⟨w.heap.size + 1, 1, none⟩ = some (.int .u64 (k.k1 : Nat)) ∧ w''.cell? ⟨w.heap.size + 1, 2, none⟩ = some (.int .u64 (k.k2 : Nat)) ∧ w''.cell? ⟨w.heap.size + 1, 3, none⟩ = some (.int .u64 (k.k3 : Nat)) ∧ w''.cell? ⟨w1.heap.size, 0, none⟩ = some (.int .u64 (k'.k0 : Nat)) ∧ w''.cell? ⟨w1.heap.size, 1, none⟩ = some (.int .u64 (k'.k1 : Nat)) ∧ w''.cell? ⟨w1.heap.size, 2, none⟩ = some (.int .u64 (k'.k2 : Nat)) ∧ w''.cell? ⟨w1.heap.size, 3, none⟩ = some (.int .u64 (k'.k3 : Nat)) from fun w'' hw => ⟨(HX2.out.later hw).cell 0, (HX2.out.later hw).cell 1, (HX2.out.later hw).cell 2, (HX2.out.later hw).cell 3, (HX2.out.later hw).cell 4, (HX2.out.later hw).cell 5, (HX2.out.later hw).cell 6, (HX2.out.later hw).cell 7, (HX2.out.later hw).cell 8, (HX2.out.later hw).cell 9, (HX2.out.later hw).cell 10, (HX2.out.later hw).cell 11, (HX2.out.later hw).cell 12, (HK2.out.later hw).cell 0, (HK2.out.later hw).cell 1, (HK2.out.later hw).cell 2, (HK2.out.later hw).cell 3, (HO.out.later hw).cell 0, (HO.out.later hw).cell 1, (HO.out.later hw).cell 2, (HO.out.later hw).cell 3⟩)
      ((with_reducible refine wpB_move ?_ ?_); exact rfl; simp only [Act.put, List.setIfInBounds_toArray, List.set_cons_zero, List.set_cons_succ])
      ((with_reducible refine wpB_move ?_ ?_); exact rfl; simp only [Act.put, List.setIfInBounds_toArray, List.set_cons_zero, List.set_cons_succ])
      apply wpB_val rfl
      · (intro w' hw'; obtain ⟨c0, c1, c2, c3, c4, c5, c6, c7, c8, c9, c10, c11, c12, c13, c14, c15, c16, c17, c18, c19, c20⟩ := HCC.out w' hw'; go_simp; with_reducible rfl)
      simp only [Act.put, List.setIfInBounds_toArray, List.set_cons_zero, List.set_cons_succ]
      ((with_reducible refine wpB_move ?_ ?_); exact rfl; simp only [Act.put, List.setIfInBounds_toArray, List.set_cons_zero, List.set_cons_succ])
      apply wpB_val rfl
      · (intro w' hw'; go_simp; with_reducible rfl)
      simp only [Act.put, List.setIfInBounds_toArray, List.set_cons_zero, List.set_cons_succ]
      apply wpB_val rfl
      · (intro w' hw'; obtain ⟨c0, c1, c2, c3, c4, c5, c6, c7, c8, c9, c10, c11, c12, c13, c14, c15, c16, c17, c18, c19, c20⟩ := HCC.out w' hw'; go_simp; with_reducible rfl)
      simp only [Act.put, List.setIfInBounds_toArray, List.set_cons_zero, List.set_cons_succ]
      apply wpB_call 12 #[recV r, .int .u64 (k.k1 : Nat)] rfl (v := _)
      · (intro w'; go_simp)
      · exact fun w' hw' => HS1.out w'
      simp only [Act.put, List.setIfInBounds_toArray, List.set_cons_zero, List.set_cons_succ]
      apply wpB_val rfl
      · (intro w' hw'; obtain ⟨c0, c1, c2, c3, c4, c5, c6, c7, c8, c9, c10, c11, c12, c13, c14, c15, c16, c17, c18, c19, c20⟩ := HCC.out w' hw'; go_simp; with_reducible rfl)
      simp only [Act.put, List.setIfInBounds_toArray, List.set_cons_zero, List.set_cons_succ]
      ((with_reducible refine wpB_move ?_ ?_); exact rfl; simp only [Act.put, List.setIfInBounds_toArray, List.set_cons_zero, List.set_cons_succ])
      apply wpB_call 12 #[recV r, .int .u64 (key : Nat)] rfl (v := _)
      · (intro w'; go_simp)
      · exact fun w' hw' => HS2.out w'
      simp only [Act.put, List.setIfInBounds_toArray, List.set_cons_zero, List.set_cons_succ]
      apply wpB_val rfl
      · (intro w' hw'; go_simp; with_reducible rfl)
      simp only [Act.put, List.setIfInBounds_toArray, List.set_cons_zero, List.set_cons_succ]
      apply wpB_val rfl
      · (intro w' hw'; go_simp; with_reducible rfl)
      simp only [Act.put, List.setIfInBounds_toArray, List.set_cons_zero, List.set_cons_succ]
      ((with_reducible refine wpB_move ?_ ?_); exact rfl; simp only [Act.put, List.setIfInBounds_toArray, List.set_cons_zero, List.set_cons_succ])
      apply wpB_val rfl
      · (intro w' hw'; obtain ⟨c0, c1, c2, c3, c4, c5, c6, c7, c8, c9, c10, c11, c12, c13, c14, c15, c16, c17, c18, c19, c20⟩ := HCC.out w' hw'; go_simp; with_reducible rfl)
      simp only [Act.put, List.setIfInBounds_toArray, List.set_cons_zero, List.set_cons_succ]
      apply wpB_val rfl
      · (intro w' hw'; obtain ⟨c0, c1, c2, c3, c4, c5, c6, c7, c8, c9, c10, c11, c12, c13, c14, c15, c16, c17, c18, c19, c20⟩ := HCC.out w' hw'; go_simp; with_reducible rfl)
      simp only [Act.put, List.setIfInBounds_toArray, List.set_cons_zero, List.set_cons_succ]
      apply wpB_call 14 #[recV r, keyV k] rfl (v := _)
      · (intro w'; go_simp)
      · exact fun w' hw' => HC1.out w'
      simp only [Act.put, List.setIfInBounds_toArray, List.set_cons_zero, List.set_cons_succ]
      apply wpB_val rfl
      · (intro w' hw'; go_simp; with_reducible rfl)
      simp only [Act.put, List.setIfInBounds_toArray, List.set_cons_zero, List.set_cons_succ]
      ((with_reducible refine wpB_move ?_ ?_); exact rfl; simp only [Act.put, List.setIfInBounds_toArray, List.set_cons_zero, List.set_cons_succ])
      apply wpB_val rfl
      · (intro w' hw'; obtain ⟨c0, c1, c2, c3, c4, c5, c6, c7, c8, c9, c10, c11, c12, c13, c14, c15, c16, c17, c18, c19, c20⟩ := HCC.out w' hw'; go_simp; with_reducible rfl)
      simp only [Act.put, List.setIfInBounds_toArray, List.set_cons_zero, List.set_cons_succ]
      apply wpB_val rfl
      · (intro w' hw'; obtain ⟨c0, c1, c2, c3, c4, c5, c6, c7, c8, c9, c10, c11, c12, c13, c14, c15, c16, c17, c18, c19, c20⟩ := HCC.out w' hw'; go_simp; with_reducible rfl)
      simp only [Act.put, List.setIfInBounds_toArray, List.set_cons_zero, List.set_cons_succ]
      apply wpB_call 14 #[recV r, keyV k'] rfl (v := _)
      · (intro w'; go_simp)
      · exact fun w' hw' => HC2.out w'
      simp only [Act.put, List.setIfInBounds_toArray, List.set_cons_zero, List.set_cons_succ]
      ((with_reducible refine wpB_move ?_ ?_); exact rfl; simp only [Act.put, List.setIfInBounds_toArray, List.set_cons_zero, List.set_cons_succ])
      apply wpB_val rfl
      · (intro w' hw'; go_simp; with_reducible rfl)
      simp only [Act.put, List.setIfInBounds_toArray, List.set_cons_zero, List.set_cons_succ]
      apply wpB_val rfl
      · (intro w' hw'; go_simp; with_reducible rfl)
      simp only [Act.put, List.setIfInBounds_toArray, List.set_cons_zero, List.set_cons_succ]
      apply wpB_val rfl
      · (intro w' hw'; go_simp; with_reducible rfl)
      simp only [Act.put, List.setIfInBounds_toArray, List.set_cons_zero, List.set_cons_succ]
      refine wpB_nil (HR.out _ (fun w2 hw2 => ?_))
      clear HR HCC
      have HB3 := Lib.hid (below_step HB2.out hw2)
      clear hw2
      go_wp2
      go_ret
      exact ⟨rfl, HB3.out⟩
    · have hcb : (chkC r k == -1) = false := by simpa using hc
      obtain ⟨C, hC⟩ : ∃ C, chkC r k = C := ⟨_, rfl⟩
      rw [hC] at HC1 hcb
      have hcb2 : (C != -1) = true := by rw [bne, hcb]; rfl
      clear hc hC
      refine wp_region_B 25 (fun w'' => Below W.heap.size W w'') mixed (by kernel_rfl) (below_closed W) (Below.refl _ _).drew ?_
      simp only [List.take_succ_cons, List.take_zero, List.drop_succ_cons, List.drop_zero]
      intro KR hR
      have HR := Lib.hid hR
      clear hR
      have HCC := Lib.hid (show ∀ w'', Below W.heap.size W w'' → w''.cell? ⟨w.heap.size, 0, none⟩ = some (.int .i64 r.se) ∧ w''.cell? ⟨w.heap.size, 1, none⟩ = some (.int .i64 r.ch) ∧ w''.cell? ⟨w.heap.size, 2, none⟩ = some (.int .i64 r.ca) ∧ w''.cell? ⟨w.heap.size, 3, none⟩ = some (.int .i64 r.ho) ∧ w''.cell? ⟨w.heap.size, 4, none⟩ = some (.int .i64 r.hs) ∧ w''.cell? ⟨w.heap.size, 5, none⟩ = some (.int .i64 r.fi) ∧ w''.cell? ⟨w.heap.size, 6, none⟩ = some (.int .i64 r.la) ∧ w''.cell? ⟨w.heap.size, 7, none⟩ = some (.int .i64 r.en) ∧ w''.cell? ⟨w.heap.size, 8, none⟩ = some (.int .i64 r.am) ∧ w''.cell? ⟨w.heap.size, 9, none⟩ = some (.int .u64 (r.g0 : Nat)) ∧ w''.cell? ⟨w.heap.size, 10, none⟩ = some (.int .u64 (r.g1 : Nat)) ∧ w''.cell? ⟨w.heap.size, 11, none⟩ = some (.int .u64 (r.g2 : Nat)) ∧ w''.cell? ⟨w.heap.size, 12, none⟩ = some (.int .u64 (r.g3 : Nat)) ∧ w''.cell? ⟨w.heap.size + 1, 0, none⟩ = some (.int .u64 (k.k0 : Nat)) ∧ w''.cell? ⟨w.heap.size + 1, 1, none⟩ = some (.int .u64 (k.k1 : Nat)) ∧ w''.cell? ⟨w.heap.size + 1, 2, none⟩ = some (.int .u64 (k.k2 : Nat)) ∧ w''.cell? ⟨w.heap.size + 1, 3, none⟩ = some (.int .u64 (k.k3 : Nat)) ∧ w''.cell? ⟨w1.heap.size, 0, none⟩ = some (.int .u64 (k'.k0 : Nat)) ∧ w''.cell? ⟨w1.heap.size, 1, none⟩ = some (.int .u64 (k'.k1 : Nat)) ∧ w''.cell? ⟨w1.heap.size, 2, none⟩ = some (.int .u64 (k'.k2 : Nat)) ∧ w''.cell? ⟨w1.heap.size, 3, none⟩ = some (.int .u64 (k'.k3 : Nat)) from fun w'' hw => ⟨(HX2.out.later hw).cell 0, (HX2.out.later hw).cell 1, (HX2.out.later hw).cell 2, (HX2.out.later hw).cell 3, (HX2.out.later hw).cell 4, (HX2.out.later hw).cell 5, (HX2.out.later hw).cell 6, (HX2.out.later hw).cell 7, (HX2.out.later hw).cell 8, (HX2.out.later hw).cell 9, (HX2.out.later hw).cell 10, (HX2.out.later hw).cell 11, (HX2.out.later hw).cell 12, (HK2.out.later hw).cell 0, (HK2.out.later hw).cell 1, (HK2.out.later hw).cell 2, (HK2.out.later hw).cell 3, (HO.out.later hw).cell 0, (HO.out.later hw).cell 1, (HO.out.later hw).cell 2, (HO.out.later hw).cell 3⟩)
      ((with_reducible refine wpB_move ?_ ?_); exact rfl; simp only [Act.put, List.setIfInBounds_toArray, List.set_cons_zero, List.set_cons_succ])
      ((with_reducible refine wpB_move ?_ ?_); exact rfl; simp only [Act.put, List.setIfInBounds_toArray, List.set_cons_zero, List.set_cons_succ])
      apply wpB_val rfl
      · (intro w' hw'; obtain ⟨c0, c1, c2, c3, c4, c5, c6, c7, c8, c9, c10, c11, c12, c13, c14, c15, c16, c17, c18, c19, c20⟩ := HCC.out w' hw'; go_simp; with_reducible rfl)
      simp only [Act.put, List.setIfInBounds_toArray, List.set_cons_zero, List.set_cons_succ]
      ((with_reducible refine wpB_move ?_ ?_); exact rfl; simp only [Act.put, List.setIfInBounds_toArray, List.set_cons_zero, List.set_cons_succ])
      apply wpB_val rfl
      · (intro w' hw'; go_simp; with_reducible rfl)
      simp only [Act.put, List.setIfInBounds_toArray, List.set_cons_zero, List.set_cons_succ]
      apply wpB_val rfl
      · (intro w' hw'; obtain ⟨c0, c1, c2, c3, c4, c5, c6, c7, c8, c9, c10, c11, c12, c13, c14, c15, c16, c17, c18, c19, c20⟩ := HCC.out w' hw'; go_simp; with_reducible rfl)
      simp only [Act.put, List.setIfInBounds_toArray, List.set_cons_zero, List.set_cons_succ]
      apply wpB_call 12 #[recV r, .int .u64 (k.k1 : Nat)] rfl (v := _)
      · (intro w'; go_simp)
      · exact fun w' hw' => HS1.out w'
      simp only [Act.put, List.setIfInBounds_toArray, List.set_cons_zero, List.set_cons_succ]
      apply wpB_val rfl
      · (intro w' hw'; obtain ⟨c0, c1, c2, c3, c4, c5, c6, c7, c8, c9, c10, c11, c12, c13, c14, c15, c16, c17, c18, c19, c20⟩ := HCC.out w' hw'; go_simp; with_reducible rfl)
      simp only [Act.put, List.setIfInBounds_toArray, List.set_cons_zero, List.set_cons_succ]
      ((with_reducible refine wpB_move ?_ ?_); exact rfl; simp only [Act.put, List.setIfInBounds_toArray, List.set_cons_zero, List.set_cons_succ])
      apply wpB_call 12 #[recV r, .int .u64 (key : Nat)] rfl (v := _)
      · (intro w'; go_simp)
      · exact fun w' hw' => HS2.out w'
      simp only [Act.put, List.setIfInBounds_toArray, List.set_cons_zero, List.set_cons_succ]
      apply wpB_val rfl
      · (intro w' hw'; go_simp; with_reducible rfl)
      simp only [Act.put, List.setIfInBounds_toArray, List.set_cons_zero, List.set_cons_succ]
      apply wpB_val rfl
      · (intro w' hw'; go_simp; with_reducible rfl)
      simp only [Act.put, List.setIfInBounds_toArray, List.set_cons_zero, List.set_cons_succ]
      ((with_reducible refine wpB_move ?_ ?_); exact rfl; simp only [Act.put, List.setIfInBounds_toArray, List.set_cons_zero, List.set_cons_succ])
      apply wpB_val rfl
      · (intro w' hw'; obtain ⟨c0, c1, c2, c3, c4, c5, c6, c7, c8, c9, c10, c11, c12, c13, c14, c15, c16, c17, c18, c19, c20⟩ := HCC.out w' hw'; go_simp; with_reducible rfl)
      simp only [Act.put, List.setIfInBounds_toArray, List.set_cons_zero, List.set_cons_succ]
      apply wpB_val rfl
      · (intro w' hw'; obtain ⟨c0, c1, c2, c3, c4, c5, c6, c7, c8, c9, c10, c11, c12, c13, c14, c15, c16, c17, c18, c19, c20⟩ := HCC.out w' hw'; go_simp; with_reducible rfl)
      simp only [Act.put, List.setIfInBounds_toArray, List.set_cons_zero, List.set_cons_succ]
      apply wpB_call 14 #[recV r, keyV k] rfl (v := _)
      · (intro w'; go_simp)
      · exact fun w' hw' => HC1.out w'
      simp only [Act.put, List.setIfInBounds_toArray, List.set_cons_zero, List.set_cons_succ]
      apply wpB_val rfl
      · (intro w' hw'; go_simp; with_reducible rfl)
      simp only [Act.put, List.setIfInBounds_toArray, List.set_cons_zero, List.set_cons_succ]
      ((with_reducible refine wpB_move ?_ ?_); exact rfl; simp only [Act.put, List.setIfInBounds_toArray, List.set_cons_zero, List.set_cons_succ])
      ((with_reducible refine wpB_skip ?_ ?_); exact rfl; simp only [Act.put, List.setIfInBounds_toArray, List.set_cons_zero, List.set_cons_succ])
      ((with_reducible refine wpB_skip ?_ ?_); exact rfl; simp only [Act.put, List.setIfInBounds_toArray, List.set_cons_zero, List.set_cons_succ])
      ((with_reducible refine wpB_skip ?_ ?_); exact rfl; simp only [Act.put, List.setIfInBounds_toArray, List.set_cons_zero, List.set_cons_succ])
      ((with_reducible refine wpB_skip ?_ ?_); exact rfl; simp only [Act.put, List.setIfInBounds_toArray, List.set_cons_zero, List.set_cons_succ])
      ((with_reducible refine wpB_skip ?_ ?_); exact rfl; simp only [Act.put, List.setIfInBounds_toArray, List.set_cons_zero, List.set_cons_succ])
      apply wpB_val rfl
      · (intro w' hw'; go_simp; with_reducible rfl)
      simp only [Act.put, List.setIfInBounds_toArray, List.set_cons_zero, List.set_cons_succ]
      apply wpB_val rfl
      · (intro w' hw'; go_simp; with_reducible rfl)
      simp only [Act.put, List.setIfInBounds_toArray, List.set_cons_zero, List.set_cons_succ]
      refine wpB_nil (HR.out _ (fun w2 hw2 => ?_))
      clear HR HCC
      have HB3 := Lib.hid (below_step HB2.out hw2)
      clear hw2
      go_wp2
      go_ret
      exact ⟨rfl, HB3.out⟩
  · have hq4 : (which : Int) % 4 = 2 := by omega
    by_cases hkk : k.k2 = key
    · subst hkk
      go_wp2
      go_ret
      exact ⟨rfl, HB.out⟩
    have hkb : ((k.k2 : Int) == (key : Int)) = false := by rw [beq_eq_false_iff_ne]; omega
    have HS1 := Lib.hid (fun w' => rSign_any r k.k2 k.h2 w')
    have HS2 := Lib.hid (fun w' => rSign_any r key hkey w')
    have HSN := Lib.hid (show ¬ sig r k.k2 = sig r key from fun e => hkk (sig_inj k.h2 hkey e))
    obtain ⟨k', hk'⟩ : ∃ k' : K4, k' = ⟨k.k0, k.k1, key, k.k3, k.h0, k.h1, hkey, k.h3⟩ := ⟨_, rfl⟩
    have HC1 := Lib.hid (fun w' => rCheck_any r k w')
    have HC2 := Lib.hid (fun w' => rCheck_any r k' w')
    have HCN := Lib.hid (fun h : chkC r k = -1 => show chkC r k' = 2 by rw [hk']; exact chkC_key2 hkey hkk h)
    obtain ⟨S1, hS1⟩ : ∃ S, sig r k.k2 = S := ⟨_, rfl⟩
    obtain ⟨S2, hS2⟩ : ∃ S, sig r key = S := ⟨_, rfl⟩
    rw [hS1] at HS1 HSN
    rw [hS2] at HS2 HSN
    clear hS1 hS2 h4
    have hsn : ((S1 : Int) == (S2 : Int)) = false := by rw [beq_eq_false_iff_ne]; have := HSN.out; omega
    have hsn2 : ((S1 : Int) != (S2 : Int)) = true := by rw [bne, hsn]; rfl
    go_wp2_with fail
    clear k0 k1 k2 k3
    have HO := Lib.hid (show KyB (w1.alloc (.cells #[.int .u64 (k.k0 : Nat), .int .u64 (k.k1 : Nat), .int .u64 (key : Nat), .int .u64 (k.k3 : Nat)] 23)) w1.heap.size k' by rw [hk']; exact Blk.new ..)
    have HX2 := Lib.hid (HX.out.later (below_alloc (Below.refl _ _) (.cells #[.int .u64 (k.k0 : Nat), .int .u64 (k.k1 : Nat), .int .u64 (key : Nat), .int .u64 (k.k3 : Nat)] 23)))
    have HK2 := Lib.hid (HK.out.later (below_alloc (Below.refl _ _) (.cells #[.int .u64 (k.k0 : Nat), .int .u64 (k.k1 : Nat), .int .u64 (key : Nat), .int .u64 (k.k3 : Nat)] 23)))
    have HB2 := Lib.hid (below_alloc HB.out (.cells #[.int .u64 (k.k0 : Nat), .int .u64 (k.k1 : Nat), .int .u64 (key : Nat), .int .u64 (k.k3 : Nat)] 23))
    obtain ⟨W, hW⟩ : ∃ W, w1.alloc (.cells #[.int .u64 (k.k0 : Nat), .int .u64 (k.k1 : Nat), .int .u64 (key : Nat), .int .u64 (k.k3 : Nat)] 23) = W := ⟨_, rfl⟩
    rw [hW] at HO HX2 HK2 HB2 ⊢
    clear hW hk'
    by_cases hc : chkC r k = -1
    · rw [hc] at HC1
      rw [HCN.out hc] at HC2
      clear hc
      refine wp_region_B 25 (fun w'' => Below W.heap.size W w'') mixed (by kernel_rfl) (below_closed W) (Below.refl _ _).drew ?_
      simp only [List.take_succ_cons, List.take_zero, List.drop_succ_cons, List.drop_zero]
      intro KR hR
      have HR := Lib.hid hR
      clear hR
      have HCC := Lib.hid (show ∀ w'', Below W.heap.size W w'' → w''.cell? ⟨w.heap.size, 0, none⟩ = some (.int .i64 r.se) ∧ w''.cell? ⟨w.heap.size, 1, none⟩ = some (.int .i64 r.ch) ∧ w''.cell? ⟨w.heap.size, 2, none⟩ = some (.int .i64 r.ca) ∧ w''.cell? ⟨w.heap.size, 3, none⟩ = some (.int .i64 r.ho) ∧ w''.cell? ⟨w.heap.size, 4, none⟩ = some (.int .i64 r.hs) ∧ w''.cell? ⟨w.heap.size, 5, none⟩ = some (.int .i64 r.fi) ∧ w''.cell? ⟨w.heap.size, 6, none⟩ = some (.int .i64 r.la) ∧ w''.cell? ⟨w.heap.size, 7, none⟩ = some (.int .i64 r.en) ∧ w''.cell? ⟨w.heap.size, 8, none⟩ = some (.int .i64 r.am) ∧ w''.cell? ⟨w.heap.size, 9, none⟩ = some (.int .u64 (r.g0 : Nat)) ∧ w''.cell? ⟨w.heap.size, 10, none⟩ = some (.int .u64 (r.g1 : Nat)) ∧ w''.cell? ⟨w.heap.size, 11, none⟩ = some (.int .u64 (r.g2 : Nat)) ∧ w''.cell? ⟨w.heap.size, 12, none⟩ = some (.int .u64 (r.g3 : Nat)) ∧ w''.cell? ⟨w.heap.size + 1, 0, none⟩ = some (.int .u64 (k.k0 : Nat)) ∧ w''.cell? ⟨w.heap.size + 1, 1, none⟩ = some (.int .u64 (k.k1 : Nat)) ∧ w''.cell? ⟨w.heap.size + 1, 2, none⟩ = some (.int .u64 (k.k2 : Nat)) ∧ w''.cell? ⟨w.heap.size + 1, 3, none⟩ = some (.int .u64 (k.k3 : Nat)) ∧ w''.cell? ⟨w1.heap.size, 0, none⟩ = some (.int .u64 (k'.k0 : Nat)) ∧ w''.cell? ⟨w1.heap.size, 1, none⟩ = some (.int .u64 (k'.k1 : Nat)) ∧ w''.cell? ⟨w1.heap.size, 2, none⟩ = some (.int .u64 (k'.k2 : Nat)) ∧ w''.cell? ⟨w1.heap.size, 3, none⟩ = some (.int .u64 (k'.k3 : Nat)) from fun w'' hw => ⟨(HX2.out.later hw).cell 0, (HX2.out.later hw).cell 1, (HX2.out.later hw).cell 2, (HX2.out.later hw).cell 3, (HX2.out.later hw).cell 4, (HX2.out.later hw).cell 5, (HX2.out.later hw).cell 6, (HX2.out.later hw).cell 7, (HX2.out.later hw).cell 8, (HX2.out.later hw).cell 9, (HX2.out.later hw).cell 10, (HX2.out.later hw).cell 11, (HX2.out.later hw).cell 12, (HK2.out.later hw).cell 0, (HK2.out.later hw).cell 1, (HK2.out.later hw).cell 2, (HK2.out.later hw).cell 3, (HO.out.later hw).cell 0, (HO.out.later hw).cell 1, (HO.out.later hw).cell 2, (HO.out.later hw).cell 3⟩)
      ((with_reducible refine wpB_move ?_ ?_); exact rfl; simp only [Act.put, List.setIfInBounds_toArray, List.set_cons_zero, List.set_cons_succ])
      ((with_reducible refine wpB_move ?_ ?_); exact rfl; simp only [Act.put, List.setIfInBounds_toArray, List.set_cons_zero, List.set_cons_succ])
      apply wpB_val rfl
      · (intro w' hw'; obtain ⟨c0, c1, c2, c3, c4, c5, c6, c7, c8, c9, c10, c11, c12, c13, c14, c15, c16, c17, c18, c19, c20⟩ := HCC.out w' hw'; go_simp; with_reducible rfl)
      simp only [Act.put, List.setIfInBounds_toArray, List.set_cons_zero, List.set_cons_succ]
      ((with_reducible refine wpB_move ?_ ?_); exact rfl; simp only [Act.put, List.setIfInBounds_toArray, List.set_cons_zero, List.set_cons_succ])
      apply wpB_val rfl
      · (intro w' hw'; go_simp; with_reducible rfl)
      simp only [Act.put, List.setIfInBounds_toArray, List.set_cons_zero, List.set_cons_succ]
      apply wpB_val rfl
      · (intro w' hw'; obtain ⟨c0, c1, c2, c3, c4, c5, c6, c7, c8, c9, c10, c11, c12, c13, c14, c15, c16, c17, c18, c19, c20⟩ := HCC.out w' hw'; go_simp; with_reducible rfl)
      simp only [Act.put, List.setIfInBounds_toArray, List.set_cons_zero, List.set_cons_succ]
      apply wpB_call 12 #[recV r, .int .u64 (k.k2 : Nat)] rfl (v := _)
      · (intro w'; go_simp)
      · exact fun w' hw' => HS1.out w'
      simp only [Act.put, List.setIfInBounds_toArray, List.set_cons_zero, List.set_cons_succ]
      apply wpB_val rfl
      · (intro w' hw'; obtain ⟨c0, c1, c2, c3, c4, c5, c6, c7, c8, c9, c10, c11, c12, c13, c14, c15, c16, c17, c18, c19, c20⟩ := HCC.out w' hw'; go_simp; with_reducible rfl)
      simp only [Act.put, List.setIfInBounds_toArray, List.set_cons_zero, List.set_cons_succ]
      ((with_reducible refine wpB_move ?_ ?_); exact rfl; simp only [Act.put, List.setIfInBounds_toArray, List.set_cons_zero, List.set_cons_succ])
      apply wpB_call 12 #[recV r, .int .u64 (key : Nat)] rfl (v := _)
      · (intro w'; go_simp)
      · exact fun w' hw' => HS2.out w'
      simp only [Act.put, List.setIfInBounds_toArray, List.set_cons_zero, List.set_cons_succ]
      apply wpB_val rfl
      · (intro w' hw'; go_simp; with_reducible rfl)
      simp only [Act.put, List.setIfInBounds_toArray, List.set_cons_zero, List.set_cons_succ]
      apply wpB_val rfl
      · (intro w' hw'; go_simp; with_reducible rfl)
      simp only [Act.put, List.setIfInBounds_toArray, List.set_cons_zero, List.set_cons_succ]
      ((with_reducible refine wpB_move ?_ ?_); exact rfl; simp only [Act.put, List.setIfInBounds_toArray, List.set_cons_zero, List.set_cons_succ])
      apply wpB_val rfl
      · (intro w' hw'; obtain ⟨c0, c1, c2, c3, c4, c5, c6, c7, c8, c9, c10, c11, c12, c13, c14, c15, c16, c17, c18, c19, c20⟩ := HCC.out w' hw'; go_simp; with_reducible rfl)
      simp only [Act.put, List.setIfInBounds_toArray, List.set_cons_zero, List.set_cons_succ]
      apply wpB_val rfl
      · (intro w' hw'; obtain ⟨c0, c1, c2, c3, c4, c5, c6, c7, c8, c9, c10, c11, c12, c13, c14, c15, c16, c17, c18, c19, c20⟩ := HCC.out w' hw'; go_simp; with_reducible rfl)
      simp only [Act.put, List.setIfInBounds_toArray, List.set_cons_zero, List.set_cons_succ]
      apply wpB_call 14 #[recV r, keyV k] rfl (v := _)
      · (intro w'; go_simp)
      · exact fun w' hw' => HC1.out w'
      simp only [Act.put, List.setIfInBounds_toArray, List.set_cons_zero, List.set_cons_succ]
      apply wpB_val rfl
      · (intro w' hw'; go_simp; with_reducible rfl)
      simp only [Act.put, List.setIfInBounds_toArray, List.set_cons_zero, List.set_cons_succ]
      ((with_reducible refine wpB_move ?_ ?_); exact rfl; simp only [Act.put, List.setIfInBounds_toArray, List.set_cons_zero, List.set_cons_succ])
      apply wpB_val rfl
      · (intro w' hw'; obtain ⟨c0, c1, c2, c3, c4, c5, c6, c7, c8, c9, c10, c11, c12, c13, c14, c15, c16, c17, c18, c19, c20⟩ := HCC.out w' hw'; go_simp; with_reducible rfl)
      simp only [Act.put, List.setIfInBounds_toArray, List.set_cons_zero, List.set_cons_succ]
      apply wpB_val rfl
      · (intro w' hw'; obtain ⟨c0, c1, c2, c3, c4, c5, c6, c7, c8, c9, c10, c11, c12, c13, c14, c15, c16, c17, c18, c19, c20⟩ := HCC.out w' hw'; go_simp; with_reducible rfl)
      simp only [Act.put, List.setIfInBounds_toArray, List.set_cons_zero, List.set_cons_succ]
      apply wpB_call 14 #[recV r, keyV k'] rfl (v := _)
      · (intro w'; go_simp)
      · exact fun w' hw' => HC2.out w'
      simp only [Act.put, List.setIfInBounds_toArray, List.set_cons_zero, List.set_cons_succ]
      ((with_reducible refine wpB_move ?_ ?_); exact rfl; simp only [Act.put, List.setIfInBounds_toArray, List.set_cons_zero, List.set_cons_succ])
      apply wpB_val rfl
      · (intro w' hw'; go_simp; with_reducible rfl)
      simp only [Act.put, List.setIfInBounds_toArray, List.set_cons_zero, List.set_cons_succ]
      apply wpB_val rfl
      · (intro w' hw'; go_simp; with_reducible rfl)
      simp only [Act.put, List.setIfInBounds_toArray, List.set_cons_zero, List.set_cons_succ]
      apply wpB_val rfl
      · (intro w' hw'; go_simp; with_reducible rfl)
      simp only [Act.put, List.setIfInBounds_toArray, List.set_cons_zero, List.set_cons_succ]
      refine wpB_nil (HR.out _ (fun w2 hw2 => ?_))
      clear HR HCC
      have HB3 := Lib.hid (below_step HB2.out hw2)
      clear hw2
      go_wp2
      go_ret
      exact ⟨rfl, HB3.out⟩
    · have hcb : (chkC r k == -1) = false := by simpa using hc
      obtain ⟨C, hC⟩ : ∃ C, chkC r k = C := ⟨_, rfl⟩
      rw [hC] at HC1 hcb
      have hcb2 : (C != -1) = true := by rw [bne, hcb]; rfl
      clear hc hC
      refine wp_region_B 25 (fun w'' => Below W.heap.size W w'') mixed (by kernel_rfl) (below_closed W) (Below.refl _ _).drew ?_
      simp only [List.take_succ_cons, List.take_zero, List.drop_succ_cons, List.drop_zero]
      intro KR hR
      have HR := Lib.hid hR
      clear hR
      have HCC := Lib.hid (show ∀ w'', Below W.heap.size W w'' → w''.cell? ⟨w.heap.size, 0, none⟩ = some (.int .i64 r.se) ∧ w''.cell? ⟨w.heap.size, 1, none⟩ = some (.int .i64 r.ch) ∧ w''.cell? ⟨w.heap.size, 2, none⟩ = some (.int .i64 r.ca) ∧ w''.cell? ⟨w.heap.size, 3, none⟩ = some (.int .i64 r.ho) ∧ w''.cell? ⟨w.heap.size, 4, none⟩ = some (.int .i64 r.hs) ∧ w''.cell? ⟨w.heap.size, 5, none⟩ = some (.int .i64 r.fi) ∧ w''.cell? ⟨w.heap.size, 6, none⟩ = some (.int .i64 r.la) ∧ w''.cell? ⟨w.heap.size, 7, none⟩ = some (.int .i64 r.en) ∧ w''.cell? ⟨w.heap.size, 8, none⟩ = some (.int .i64 r.am) ∧ w''.cell? ⟨w.heap.size, 9, none⟩ = some (.int .u64 (r.g0 : Nat)) ∧ w''.cell? ⟨w.heap.size, 10, none⟩ = some (.int .u64 (r.g1 : Nat)) ∧ w''.cell? ⟨w.heap.size, 11, none⟩ = some (.int .u64 (r.g2 : Nat)) ∧ w''.cell? ⟨w.heap.size, 12, none⟩ = some (.int .u64 (r.g3 : Nat)) ∧ w''.cell? ⟨w.heap.size + 1, 0, none⟩ = some (.int .u64 (k.k0 : Nat)) ∧ w''.cell? ⟨w.heap.size + 1, 1, none⟩ = some (.int .u64 (k.k1 : Nat)) ∧ w''.cell? ⟨w.heap.size + 1, 2, none⟩ = some (.int .u64 (k.k2 : Nat)) ∧ w''.cell? ⟨w.heap.size + 1, 3, none⟩ = some (.int .u64 (k.k3 : Nat)) ∧ w''.cell? ⟨w1.heap.size, 0, none⟩ = some (.int .u64 (k'.k0 : Nat)) ∧ w''.cell? ⟨w1.heap.size, 1, none⟩ = some (.int .u64 (k'.k1 : Nat)) ∧ w''.cell? ⟨w1.heap.size, 2, none⟩ = some (.int .u64 (k'.k2 : Nat)) ∧ w''.cell? ⟨w1.heap.size, 3, none⟩ = some (.int .u64 (k'.k3 : Nat)) from fun w'' hw => ⟨(HX2.out.later hw).cell 0, (HX2.out.later hw).cell 1, (HX2.out.later hw).cell 2, (HX2.out.later hw).cell 3, (HX2.out.later hw).cell 4, (HX2.out.later hw).cell 5, (HX2.out.later hw).cell 6, (HX2.out.later hw).cell 7, (HX2.out.later hw).cell 8, (HX2.out.later hw).cell 9, (HX2.out.later hw).cell 10, (HX2.out.later hw).cell 11, (HX2.out.later hw).cell 12, (HK2.out.later hw).cell 0, (HK2.out.later hw).cell 1, (HK2.out.later hw).cell 2, (HK2.out.later hw).cell 3, (HO.out.later hw).cell 0, (HO.out.later hw).cell 1, (HO.out.later hw).cell 2, (HO.out.later hw).cell 3⟩)
      ((with_reducible refine wpB_move ?_ ?_); exact rfl; simp only [Act.put, List.setIfInBounds_toArray, List.set_cons_zero, List.set_cons_succ])
      ((with_reducible refine wpB_move ?_ ?_); exact rfl; simp only [Act.put, List.setIfInBounds_toArray, List.set_cons_zero, List.set_cons_succ])
      apply wpB_val rfl
      · (intro w' hw'; obtain ⟨c0, c1, c2, c3, c4, c5, c6, c7, c8, c9, c10, c11, c12, c13, c14, c15, c16, c17, c18, c19, c20⟩ := HCC.out w' hw'; go_simp; with_reducible rfl)
      simp only [Act.put, List.setIfInBounds_toArray, List.set_cons_zero, List.set_cons_succ]
      ((with_reducible refine wpB_move ?_ ?_); exact rfl; simp only [Act.put, List.setIfInBounds_toArray, List.set_cons_zero, List.set_cons_succ])
      apply wpB_val rfl
      · (intro w' hw'; go_simp; with_reducible rfl)
      simp only [Act.put, List.setIfInBounds_toArray, List.set_cons_zero, List.set_cons_succ]
      apply wpB_val rfl
      · (intro w' hw'; obtain ⟨c0, c1, c2, c3, c4, c5, c6, c7, c8, c9, c10, c11, c12, c13, c14, c15, c16, c17, c18, c19, c20⟩ := HCC.out w' hw'; go_simp; with_reducible rfl)
      simp only [Act.put, List.setIfInBounds_toArray, List.set_cons_zero, List.set_cons_succ]
      apply wpB_call 12 #[recV r, .int .u64 (k.k2 : Nat)] rfl (v := _)
      · (intro w'; go_simp)
      · exact fun w' hw' => HS1.out w'
      simp only [Act.put, List.setIfInBounds_toArray, List.set_cons_zero, List.set_cons_succ]
      apply wpB_val rfl
      · (intro w' hw'; obtain ⟨c0, c1, c2, c3, c4, c5, c6, c7, c8, c9, c10, c11, c12, c13, c14, c15, c16, c17, c18, c19, c20⟩ := HCC.out w' hw'; go_simp; with_reducible rfl)
      simp only [Act.put, List.setIfInBounds_toArray, List.set_cons_zero, List.set_cons_succ]
      ((with_reducible refine wpB_move ?_ ?_); exact rfl; simp only [Act.put, List.setIfInBounds_toArray, List.set_cons_zero, List.set_cons_succ])
      apply wpB_call 12 #[recV r, .int .u64 (key : Nat)] rfl (v := _)
      · (intro w'; go_simp)
      · exact fun w' hw' => HS2.out w'
      simp only [Act.put, List.setIfInBounds_toArray, List.set_cons_zero, List.set_cons_succ]
      apply wpB_val rfl
      · (intro w' hw'; go_simp; with_reducible rfl)
      simp only [Act.put, List.setIfInBounds_toArray, List.set_cons_zero, List.set_cons_succ]
      apply wpB_val rfl
      · (intro w' hw'; go_simp; with_reducible rfl)
      simp only [Act.put, List.setIfInBounds_toArray, List.set_cons_zero, List.set_cons_succ]
      ((with_reducible refine wpB_move ?_ ?_); exact rfl; simp only [Act.put, List.setIfInBounds_toArray, List.set_cons_zero, List.set_cons_succ])
      apply wpB_val rfl
      · (intro w' hw'; obtain ⟨c0, c1, c2, c3, c4, c5, c6, c7, c8, c9, c10, c11, c12, c13, c14, c15, c16, c17, c18, c19, c20⟩ := HCC.out w' hw'; go_simp; with_reducible rfl)
      simp only [Act.put, List.setIfInBounds_toArray, List.set_cons_zero, List.set_cons_succ]
      apply wpB_val rfl
      · (intro w' hw'; obtain ⟨c0, c1, c2, c3, c4, c5, c6, c7, c8, c9, c10, c11, c12, c13, c14, c15, c16, c17, c18, c19, c20⟩ := HCC.out w' hw'; go_simp; with_reducible rfl)
      simp only [Act.put, List.setIfInBounds_toArray, List.set_cons_zero, List.set_cons_succ]
      apply wpB_call 14 #[recV r, keyV k] rfl (v := _)
      · (intro w'; go_simp)
      · exact fun w' hw' => HC1.out w'
      simp only [Act.put, List.setIfInBounds_toArray, List.set_cons_zero, List.set_cons_succ]
      apply wpB_val rfl
      · (intro w' hw'; go_simp; with_reducible rfl)
      simp only [Act.put, List.setIfInBounds_toArray, List.set_cons_zero, List.set_cons_succ]
      ((with_reducible refine wpB_move ?_ ?_); exact rfl; simp only [Act.put, List.setIfInBounds_toArray, List.set_cons_zero, List.set_cons_succ])
      ((with_reducible refine wpB_skip ?_ ?_); exact rfl; simp only [Act.put, List.setIfInBounds_toArray, List.set_cons_zero, List.set_cons_succ])
      ((with_reducible refine wpB_skip ?_ ?_); exact rfl; simp only [Act.put, List.setIfInBounds_toArray, List.set_cons_zero, List.set_cons_succ])
      ((with_reducible refine wpB_skip ?_ ?_); exact rfl; simp only [Act.put, List.setIfInBounds_toArray, List.set_cons_zero, List.set_cons_succ])
      ((with_reducible refine wpB_skip ?_ ?_); exact rfl; simp only [Act.put, List.setIfInBounds_toArray, List.set_cons_zero, List.set_cons_succ])
      ((with_reducible refine wpB_skip ?_ ?_); exact rfl; simp only [Act.put, List.setIfInBounds_toArray, List.set_cons_zero, List.set_cons_succ])
      apply wpB_val rfl
      · (intro w' hw'; go_simp; with_reducible rfl)
      simp only [Act.put, List.setIfInBounds_toArray, List.set_cons_zero, List.set_cons_succ]
      apply wpB_val rfl
      · (intro w' hw'; go_simp; with_reducible rfl)
      simp only [Act.put, List.setIfInBounds_toArray, List.set_cons_zero, List.set_cons_succ]
      refine wpB_nil (HR.out _ (fun w2 hw2 => ?_))
      clear HR HCC
      have HB3 := Lib.hid (below_step HB2.out hw2)
      clear hw2
      go_wp2
      go_ret
      exact ⟨rfl, HB3.out⟩
  · have hq4 : (which : Int) % 4 = 3 := by omega
    by_cases hkk : k.k3 = key
    · subst hkk
      go_wp2
      go_ret
      exact ⟨rfl, HB.out⟩
    have hkb : ((k.k3 : Int) == (key : Int)) = false := by rw [beq_eq_false_iff_ne]; omega
    have HS1 := Lib.hid (fun w' => rSign_any r k.k3 k.h3 w')
    have HS2 := Lib.hid (fun w' => rSign_any r key hkey w')
    have HSN := Lib.hid (show ¬ sig r k.k3 = sig r key from fun e => hkk (sig_inj k.h3 hkey e))
    obtain ⟨k', hk'⟩ : ∃ k' : K4, k' = ⟨k.k0, k.k1, k.k2, key, k.h0, k.h1, k.h2, hkey⟩ := ⟨_, rfl⟩
    have HC1 := Lib.hid (fun w' => rCheck_any r k w')
    have HC2 := Lib.hid (fun w' => rCheck_any r k' w')
    have HCN := Lib.hid (fun h : chkC r k = -1 => show chkC r k' = 3 by rw [hk']; exact chkC_key3 hkey hkk h)
    obtain ⟨S1, hS1⟩ : ∃ S, sig r k.k3 = S := ⟨_, rfl⟩
    obtain ⟨S2, hS2⟩ : ∃ S, sig r key = S := ⟨_, rfl⟩
    rw [hS1] at HS1 HSN
    rw [hS2] at HS2 HSN
    clear hS1 hS2 h4
    have hsn : ((S1 : Int) == (S2 : Int)) = false := by rw [beq_eq_false_iff_ne]; have := HSN.out; omega
    have hsn2 : ((S1 : Int) != (S2 : Int)) = true := by rw [bne, hsn]; rfl
    go_wp2_with fail
    clear k0 k1 k2 k3
    have HO := Lib.hid (show KyB (w1.alloc (.cells #[.int .u64 (k.k0 : Nat), .int .u64 (k.k1 : Nat), .int .u64 (k.k2 : Nat), .int .u64 (key : Nat)] 23)) w1.heap.size k' by rw [hk']; exact Blk.new ..)
    have HX2 := Lib.hid (HX.out.later (below_alloc (Below.refl _ _) (.cells #[.int .u64 (k.k0 : Nat), .int .u64 (k.k1 : Nat), .int .u64 (k.k2 : Nat), .int .u64 (key : Nat)] 23)))
    have HK2 := Lib.hid (HK.out.later (below_alloc (Below.refl _ _) (.cells #[.int .u64 (k.k0 : Nat), .int .u64 (k.k1 : Nat), .int .u64 (k.k2 : Nat), .int .u64 (key : Nat)] 23)))
    have HB2 := Lib.hid (below_alloc HB.out (.cells #[.int .u64 (k.k0 : Nat), .int .u64 (k.k1 : Nat), .int .u64 (k.k2 : Nat), .int .u64 (key : Nat)] 23))
    obtain ⟨W, hW⟩ : ∃ W, w1.alloc (.cells #[.int .u64 (k.k0 : Nat), .int .u64 (k.k1 : Nat), .int .u64 (k.k2 : Nat), .int .u64 (key : Nat)] 23) = W := ⟨_, rfl⟩
    rw [hW] at HO HX2 HK2 HB2 ⊢
    clear hW hk'
    by_cases hc : chkC r k = -1
    · rw [hc] at HC1
      rw [HCN.out hc] at HC2
      clear hc
      refine wp_region_B 25 (fun w'' => Below W.heap.size W w'') mixed (by kernel_rfl) (below_closed W) (Below.refl _ _).drew ?_
      simp only [List.take_succ_cons, List.take_zero, List.drop_succ_cons, List.drop_zero]
      intro KR hR
      have HR := Lib.hid hR
      clear hR
      have HCC := Lib.hid (show ∀ w'', Below W.heap.size W w'' → w''.cell? ⟨w.heap.size, 0, none⟩ = some (.int .i64 r.se) ∧ w''.cell? ⟨w.heap.size, 1, none⟩ = some (.int .i64 r.ch) ∧ w''.cell? ⟨w.heap.size, 2, none⟩ = some (.int .i64 r.ca) ∧ w''.cell? ⟨w.heap.size, 3, none⟩ = some (.int .i64 r.ho) ∧ w''.cell? ⟨w.heap.size, 4, none⟩ = some (.int .i64 r.hs) ∧ w''.cell? ⟨w.heap.size, 5, none⟩ = some (.int .i64 r.fi) ∧ w''.cell? ⟨w.heap.size, 6, none⟩ = some (.int .i64 r.la) ∧ w''.cell? ⟨w.heap.size, 7, none⟩ = some (.int .i64 r.en) ∧ w''.cell? ⟨w.heap.size, 8, none⟩ = some (.int .i64 r.am) ∧ w''.cell? ⟨w.heap.size, 9, none⟩ = some (.int .u64 (r.g0 : Nat)) ∧ w''.cell? ⟨w.heap.size, 10, none⟩ = some (.int .u64 (r.g1 : Nat)) ∧ w''.cell? ⟨w.heap.size, 11, none⟩ = some (.int .u64 (r.g2 : Nat)) ∧ w''.cell? ⟨w.heap.size, 12, none⟩ = some (.int .u64 (r.g3 : Nat)) ∧ w''.cell? ⟨w.heap.size + 1, 0, none⟩ = some (.int .u64 (k.k0 : Nat)) ∧ w''.cell? ⟨w.heap.size + 1, 1, none⟩ = some (.int .u64 (k.k1 : Nat)) ∧ w''.cell? ⟨w.heap.size + 1, 2, none⟩ = some (.int .u64 (k.k2 : Nat)) ∧ w''.cell? ⟨w.heap.size + 1, 3, none⟩ = some (.int .u64 (k.k3 : Nat)) ∧ w''.cell? ⟨w1.heap.size, 0, none⟩ = some (.int .u64 (k'.k0 : Nat)) ∧ w''.cell? ⟨w1.heap.size, 1, none⟩ = some (.int .u64 (k'.k1 : Nat)) ∧ w''.cell? ⟨w1.heap.size, 2, none⟩ = some (.int .u64 (k'.k2 : Nat)) ∧ w''.cell? ⟨w1.heap.size, 3, none⟩ = some (.int .u64 (k'.k3 : Nat)) from fun w'' hw => ⟨(HX2.out.later hw).cell 0, (HX2.out.later hw).cell 1, (HX2.out.later hw).cell 2, (HX2.out.later hw).cell 3, (HX2.out.later hw).cell 4, (HX2.out.later hw).cell 5, (HX2.out.later hw).cell 6, (HX2.out.later hw).cell 7, (HX2.out.later hw).cell 8, (HX2.out.later hw).cell 9, (HX2.out.later hw).cell 10, (HX2.out.later hw).cell 11, (HX2.out.later hw).cell 12, (HK2.out.later hw).cell 0, (HK2.out.later hw).cell 1, (HK2.out.later hw).cell 2, (HK2.out.later hw).cell 3, (HO.out.later hw).cell 0, (HO.out.later hw).cell 1, (HO.out.later hw).cell 2, (HO.out.later hw).cell 3⟩)
      ((with_reducible refine wpB_move ?_ ?_); exact rfl; simp only [Act.put, List.setIfInBounds_toArray, List.set_cons_zero, List.set_cons_succ])
      ((with_reducible refine wpB_move ?_ ?_); exact rfl; simp only [Act.put, List.setIfInBounds_toArray, List.set_cons_zero, List.set_cons_succ])
      apply wpB_val rfl
      · (intro w' hw'; obtain ⟨c0, c1, c2, c3, c4, c5, c6, c7, c8, c9, c10, c11, c12, c13, c14, c15, c16, c17, c18, c19, c20⟩ := HCC.out w' hw'; go_simp; with_reducible rfl)
      simp only [Act.put, List.setIfInBounds_toArray, List.set_cons_zero, List.set_cons_succ]
      ((with_reducible refine wpB_move ?_ ?_); exact rfl; simp only [Act.put, List.setIfInBounds_toArray, List.set_cons_zero, List.set_cons_succ])
      apply wpB_val rfl
      · (intro w' hw'; go_simp; with_reducible rfl)
      simp only [Act.put, List.setIfInBounds_toArray, List.set_cons_zero, List.set_cons_succ]
      apply wpB_val rfl
      · (intro w' hw'; obtain ⟨c0, c1, c2, c3, c4, c5, c6, c7, c8, c9, c10, c11, c12, c13, c14, c15, c16, c17, c18, c19, c20⟩ := HCC.out w' hw'; go_simp; with_reducible rfl)
      simp only [Act.put, List.setIfInBounds_toArray, List.set_cons_zero, List.set_cons_succ]
      apply wpB_call 12 #[recV r, .int .u64 (k.k3 : Nat)] rfl (v := _)
      · (intro w'; go_simp)
      · exact fun w' hw' => HS1.out w'
      simp only [Act.put, List.setIfInBounds_toArray, List.set_cons_zero, List.set_cons_succ]
      apply wpB_val rfl
      · (intro w' hw'; obtain ⟨c0, c1, c2, c3, c4, c5, c6, c7, c8, c9, c10, c11, c12, c13, c14, c15, c16, c17, c18, c19, c20⟩ := HCC.out w' hw'; go_simp; with_reducible rfl)
      simp only [Act.put, List.setIfInBounds_toArray, List.set_cons_zero, List.set_cons_succ]
      ((with_reducible refine wpB_move ?_ ?_); exact rfl; simp only [Act.put, List.setIfInBounds_toArray, List.set_cons_zero, List.set_cons_succ])
      apply wpB_call 12 #[recV r, .int .u64 (key : Nat)] rfl (v := _)
      · (intro w'; go_simp)
      · exact fun w' hw' => HS2.out w'
      simp only [Act.put, List.setIfInBounds_toArray, List.set_cons_zero, List.set_cons_succ]
      apply wpB_val rfl
      · (intro w' hw'; go_simp; with_reducible rfl)
      simp only [Act.put, List.setIfInBounds_toArray, List.set_cons_zero, List.set_cons_succ]
      apply wpB_val rfl
      · (intro w' hw'; go_simp; with_reducible rfl)
      simp only [Act.put, List.setIfInBounds_toArray, List.set_cons_zero, List.set_cons_succ]
      ((with_reducible refine wpB_move ?_ ?_); exact rfl; simp only [Act.put, List.setIfInBounds_toArray, List.set_cons_zero, List.set_cons_succ])
      apply wpB_val rfl
      · (intro w' hw'; obtain ⟨c0, c1, c2, c3, c4, c5, c6, c7, c8, c9, c10, c11, c12, c13, c14, c15, c16, c17, c18, c19, c20⟩ := HCC.out w' hw'; go_simp; with_reducible rfl)
      simp only [Act.put, List.setIfInBounds_toArray, List.set_cons_zero, List.set_cons_succ]
      apply wpB_val rfl
      · (intro w' hw'; obtain ⟨c0, c1, c2, c3, c4, c5, c6, c7, c8, c9, c10, c11, c12, c13, c14, c15, c16, c17, c18, c19, c20⟩ := HCC.out w' hw'; go_simp; with_reducible rfl)
      simp only [Act.put, List.setIfInBounds_toArray, List.set_cons_zero, List.set_cons_succ]
      apply wpB_call 14 #[recV r, keyV k] rfl (v := _)
      · (intro w'; go_simp)
      · exact fun w' hw' => HC1.out w'
      simp only [Act.put, List.setIfInBounds_toArray, List.set_cons_zero, List.set_cons_succ]
      apply wpB_val rfl
      · (intro w' hw'; go_simp; with_reducible rfl)
      simp only [Act.put, List.setIfInBounds_toArray, List.set_cons_zero, List.set_cons_succ]
      ((with_reducible refine wpB_move ?_ ?_); exact rfl; simp only [Act.put, List.setIfInBounds_toArray, List.set_cons_zero, List.set_cons_succ])
      apply wpB_val rfl
      · (intro w' hw'; obtain ⟨c0, c1, c2, c3, c4, c5, c6, c7, c8, c9, c10, c11, c12, c13, c14, c15, c16, c17, c18, c19, c20⟩ := HCC.out w' hw'; go_simp; with_reducible rfl)
      simp only [Act.put, List.setIfInBounds_toArray, List.set_cons_zero, List.set_cons_succ]
      apply wpB_val rfl
      · (intro w' hw'; obtain ⟨c0, c1, c2, c3, c4, c5, c6, c7, c8, c9, c10, c11, c12, c13, c14, c15, c16, c17, c18, c19, c20⟩ := HCC.out w' hw'; go_simp; with_reducible rfl)
      simp only [Act.put, List.setIfInBounds_toArray, List.set_cons_zero, List.set_cons_succ]
      apply wpB_call 14 #[recV r, keyV k'] rfl (v := _)
      · (intro w'; go_simp)
      · exact fun w' hw' => HC2.out w'
      simp only [Act.put, List.setIfInBounds_toArray, List.set_cons_zero, List.set_cons_succ]
      ((with_reducible refine wpB_move ?_ ?_); exact rfl; simp only [Act.put, List.setIfInBounds_toArray, List.set_cons_zero, List.set_cons_succ])
      apply wpB_val rfl
      · (intro w' hw'; go_simp; with_reducible rfl)
      simp only [Act.put, List.setIfInBounds_toArray, List.set_cons_zero, List.set_cons_succ]
      apply wpB_val rfl
      · (intro w' hw'; go_simp; with_reducible rfl)
      simp only [Act.put, List.setIfInBounds_toArray, List.set_cons_zero, List.set_cons_succ]
      apply wpB_val rfl
      · (intro w' hw'; go_simp; with_reducible rfl)
      simp only [Act.put, List.setIfInBounds_toArray, List.set_cons_zero, List.set_cons_succ]
      refine wpB_nil (HR.out _ (fun w2 hw2 => ?_))
      clear HR HCC
      have HB3 := Lib.hid (below_step HB2.out hw2)
      clear hw2
      go_wp2
      go_ret
      exact ⟨rfl, HB3.out⟩
    · have hcb : (chkC r k == -1) = false := by simpa using hc
      obtain ⟨C, hC⟩ : ∃ C, chkC r k = C := ⟨_, rfl⟩
      rw [hC] at HC1 hcb
      have hcb2 : (C != -1) = true := by rw [bne, hcb]; rfl
      clear hc hC
      refine wp_region_B 25 (fun w'' => Below W.heap.size W w'') mixed (by kernel_rfl) (below_closed W) (Below.refl _ _).drew ?_
      simp only [List.take_succ_cons, List.take_zero, List.drop_succ_cons, List.drop_zero]
      intro KR hR
      have HR := Lib.hid hR
      clear hR
      have HCC := Lib.hid (show ∀ w'', Below W.heap.size W w'' → w''.cell? ⟨w.heap.size, 0, none⟩ = some (.int .i64 r.se) ∧ w''.cell? ⟨w.heap.size, 1, none⟩ = some (.int .i64 r.ch) ∧ w''.cell? ⟨w.heap.size, 2, none⟩ = some (.int .i64 r.ca) ∧ w''.cell? ⟨w.heap.size, 3, none⟩ = some (.int .i64 r.ho) ∧ w''.cell? ⟨w.heap.size, 4, none⟩ = some (.int .i64 r.hs) ∧ w''.cell? ⟨w.heap.size, 5, none⟩ = some (.int .i64 r.fi) ∧ w''.cell? ⟨w.heap.size, 6, none⟩ = some (.int .i64 r.la) ∧ w''.cell? ⟨w.heap.size, 7, none⟩ = some (.int .i64 r.en) ∧ w''.cell? ⟨w.heap.size, 8, none⟩ = some (.int .i64 r.am) ∧ w''.cell? ⟨w.heap.size, 9, none⟩ = some (.int .u64 (r.g0 : Nat)) ∧ w''.cell? ⟨w.heap.size, 10, none⟩ = some (.int .u64 (r.g1 : Nat)) ∧ w''.cell? ⟨w.heap.size, 11, none⟩ = some (.int .u64 (r.g2 : Nat)) ∧ w''.cell? ⟨w.heap.size, 12, none⟩ = some (.int .u64 (r.g3 : Nat)) ∧ w''.cell? ⟨w.heap.size + 1, 0, none⟩ = some (.int .u64 (k.k0 : Nat)) ∧ w''.cell? ⟨w.heap.size + 1, 1, none⟩ = some (.int .u64 (k.k1 : Nat)) ∧ w''.cell? ⟨w.heap.size + 1, 2, none⟩ = some (.int .u64 (k.k2 : Nat)) ∧ w''.cell? ⟨w.heap.size + 1, 3, none⟩ = some (.int .u64 (k.k3 : Nat)) ∧ w''.cell? ⟨w1.heap.size, 0, none⟩ = some (.int .u64 (k'.k0 : Nat)) ∧ w''.cell? ⟨w1.heap.size, 1, none⟩ = some (.int .u64 (k'.k1 : Nat)) ∧ w''.cell? ⟨w1.heap.size, 2, none⟩ = some (.int .u64 (k'.k2 : Nat)) ∧ w''.cell? ⟨w1.heap.size, 3, none⟩ = some (.int .u64 (k'.k3 : Nat)) from fun w'' hw => ⟨(HX2.out.later hw).cell 0, (HX2.out.later hw).cell 1, (HX2.out.later hw).cell 2, (HX2.out.later hw).cell 3, (HX2.out.later hw).cell 4, (HX2.out.later hw).cell 5, (HX2.out.later hw).cell 6, (HX2.out.later hw).cell 7, (HX2.out.later hw).cell 8, (HX2.out.later hw).cell 9, (HX2.out.later hw).cell 10, (HX2.out.later hw).cell 11, (HX2.out.later hw).cell 12, (HK2.out.later hw).cell 0, (HK2.out.later hw).cell 1, (HK2.out.later hw).cell 2, (HK2.out.later hw).cell 3, (HO.out.later hw).cell 0, (HO.out.later hw).cell 1, (HO.out.later hw).cell 2, (HO.out.later hw).cell 3⟩)
      ((with_reducible refine wpB_move ?_ ?_); exact rfl; simp only [Act.put, List.setIfInBounds_toArray, List.set_cons_zero, List.set_cons_succ])
      ((with_reducible refine wpB_move ?_ ?_); exact rfl; simp only [Act.put, List.setIfInBounds_toArray, List.set_cons_zero, List.set_cons_succ])
      apply wpB_val rfl
      · (intro w' hw'; obtain ⟨c0, c1, c2, c3, c4, c5, c6, c7, c8, c9, c10, c11, c12, c13, c14, c15, c16, c17, c18, c19, c20⟩ := HCC.out w' hw'; go_simp; with_reducible rfl)
      simp only [Act.put, List.setIfInBounds_toArray, List.set_cons_zero, List.set_cons_succ]
      ((with_reducible refine wpB_move ?_ ?_); exact rfl; simp only [Act.put, List.setIfInBounds_toArray, List.set_cons_zero, List.set_cons_succ])
      apply wpB_val rfl
      · (intro w' hw'; go_simp; with_reducible rfl)
      simp only [Act.put, List.setIfInBounds_toArray, List.set_cons_zero, List.set_cons_succ]
      apply wpB_val rfl
      · (intro w' hw'; obtain ⟨c0, c1, c2, c3, c4, c5, c6, c7, c8, c9, c10, c11, c12, c13, c14, c15, c16, c17, c18, c19, c20⟩ := HCC.out w' hw'; go_simp; with_reducible rfl)
      simp only [Act.put, List.setIfInBounds_toArray, List.set_cons_zero, List.set_cons_succ]
      apply wpB_call 12 #[recV r, .int .u64 (k.k3 : Nat)] rfl (v := _)
      · (intro w'; go_simp)
      · exact fun w' hw' => HS1.out w'
      simp only [Act.put, List.setIfInBounds_toArray, List.set_cons_zero, List.set_cons_succ]
      apply wpB_val rfl
      · (intro w' hw'; obtain ⟨c0, c1, c2, c3, c4, c5, c6, c7, c8, c9, c10, c11, c12, c13, c14, c15, c16, c17, c18, c19, c20⟩ := HCC.out w' hw'; go_simp; with_reducible rfl)
      simp only [Act.put, List.setIfInBounds_toArray, List.set_cons_zero, List.set_cons_succ]
      ((with_reducible refine wpB_move ?_ ?_); exact rfl; simp only [Act.put, List.setIfInBounds_toArray, List.set_cons_zero, List.set_cons_succ])
      apply wpB_call 12 #[recV r, .int .u64 (key : Nat)] rfl (v := _)
      · (intro w'; go_simp)
      · exact fun w' hw' => HS2.out w'
      simp only [Act.put, List.setIfInBounds_toArray, List.set_cons_zero, List.set_cons_succ]
      apply wpB_val rfl
      · (intro w' hw'; go_simp; with_reducible rfl)
      simp only [Act.put, List.setIfInBounds_toArray, List.set_cons_zero, List.set_cons_succ]
      apply wpB_val rfl
      · (intro w' hw'; go_simp; with_reducible rfl)
      simp only [Act.put, List.setIfInBounds_toArray, List.set_cons_zero, List.set_cons_succ]
      ((with_reducible refine wpB_move ?_ ?_); exact rfl; simp only [Act.put, List.setIfInBounds_toArray, List.set_cons_zero, List.set_cons_succ])
      apply wpB_val rfl
      · (intro w' hw'; obtain ⟨c0, c1, c2, c3, c4, c5, c6, c7, c8, c9, c10, c11, c12, c13, c14, c15, c16, c17, c18, c19, c20⟩ := HCC.out w' hw'; go_simp; with_reducible rfl)
      simp only [Act.put, List.setIfInBounds_toArray, List.set_cons_zero, List.set_cons_succ]
      apply wpB_val rfl
      · (intro w' hw'; obtain ⟨c0, c1, c2, c3, c4, c5, c6, c7, c8, c9, c10, c11, c12, c13, c14, c15, c16, c17, c18, c19, c20⟩ := HCC.out w' hw'; go_simp; with_reducible rfl)
      simp only [Act.put, List.setIfInBounds_toArray, List.set_cons_zero, List.set_cons_succ]
      apply wpB_call 14 #[recV r, keyV k] rfl (v := _)
      · (intro w'; go_simp)
      · exact fun w' hw' => HC1.out w'
      simp only [Act.put, List.setIfInBounds_toArray, List.set_cons_zero, List.set_cons_succ]
      apply wpB_val rfl
      · (intro w' hw'; go_simp; with_reducible rfl)
      simp only [Act.put, List.setIfInBounds_toArray, List.set_cons_zero, List.set_cons_succ]
      ((with_reducible refine wpB_move ?_ ?_); exact rfl; simp only [Act.put, List.setIfInBounds_toArray, List.set_cons_zero, List.set_cons_succ])
      ((with_reducible refine wpB_skip ?_ ?_); exact rfl; simp only [Act.put, List.setIfInBounds_toArray, List.set_cons_zero, List.set_cons_succ])
      ((with_reducible refine wpB_skip ?_ ?_); exact rfl; simp only [Act.put, List.setIfInBounds_toArray, List.set_cons_zero, List.set_cons_succ])
      ((with_reducible refine wpB_skip ?_ ?_); exact rfl; simp only [Act.put, List.setIfInBounds_toArray, List.set_cons_zero, List.set_cons_succ])
      ((with_reducible refine wpB_skip ?_ ?_); exact rfl; simp only [Act.put, List.setIfInBounds_toArray, List.set_cons_zero, List.set_cons_succ])
      ((with_reducible refine wpB_skip ?_ ?_); exact rfl; simp only [Act.put, List.setIfInBounds_toArray, List.set_cons_zero, List.set_cons_succ])
      apply wpB_val rfl
      · (intro w' hw'; go_simp; with_reducible rfl)
      simp only [Act.put, List.setIfInBounds_toArray, List.set_cons_zero, List.set_cons_succ]
      apply wpB_val rfl
      · (intro w' hw'; go_simp; with_reducible rfl)
      simp only [Act.put, List.setIfInBounds_toArray, List.set_cons_zero, List.set_cons_succ]
      refine wpB_nil (HR.out _ (fun w2 hw2 => ?_))
      clear HR HCC
      have HB3 := Lib.hid (below_step HB2.out hw2)
      clear hw2
      go_wp2
      go_ret
      exact ⟨rfl, HB3.out⟩
end Go.Proofs.Ytddbobphmakmmaa
