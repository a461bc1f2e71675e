/- Chapter 39: HubMissing. -/
import Derived.Test.YtehpdjlidmhkmaaWu39
import Derived.Test.YtehpdjlidmhkmaaPhase
namespace Go.Proofs.Ytehpdjlidmhkmaa
open Go.RowKit
attribute [local go_sem] Oper.semAt_some

theorem miss_all {l : List Bx} {T : Nat} (hl : validL l = true) (hT : T < l.length) (h : (missL l (getB l T).f).length ≤ 63) : missL l (getB l T).f = gaps (getB l T).x (getB l T).ws := by
  obtain ⟨h1, h2, _, _⟩ := of_at (validL_iff.1 hl).2.2 hT
  rw [missL_yes hl h2, h1] at h ⊢
  rw [List.length_take] at h
  exact List.take_of_length_le (by omega)
/-- The loop of HubMissing. -/
def MisRel (W : World) (f : Int) (G : List Int) (n : Nat) (bx ov i : Value) (wr : World) : Prop :=
  ∃ (k over : Nat) (oB : Option Addr) (cB : Nat) (lB : List Bx), k ≤ G.length ∧ i = .int .i64 k ∧ ov = .int .i64 over ∧ over ≤ 200 ∧ bx = .slice oB lB.length cB ∧ lB.length ≤ 64 ∧ Bxs wr oB lB ∧ MisAt f G n lB over k ∧ Below W.heap.size W wr

set_option maxRecDepth 100000 in
set_option maxHeartbeats 16000000 in
theorem missing_walk (o : Option Addr) (cap : Nat) (l : List Bx) (which : Int) (w : World) (hr : Bxs w o l) (hl : l.length ≤ 1000000000000000) : Calls Try.prog 9 #[.slice o l.length cap, .int .i64 which] w (Ret (.bool true) w) := by
  have HR := Lib.hid hr
  clear hr
  go_enter Try.func9, Try.ntmps9
  go_wp2_with fail
  refine (head_any _).mono ?_
  rintro e x1 ⟨rfl, hb⟩
  have HW := Lib.hid hb
  clear hb
  go_wp2_with fail
  refine (few_any o cap l _ (HR.out.later HW.out) (by omega)).mono ?_
  rintro e x2 ⟨rfl, hb⟩
  replace HW := Lib.hid (below_step HW.out hb)
  clear hb
  obtain ⟨F, hF⟩ : ∃ F, fewL l = F := ⟨_, rfl⟩
  rw [hF]
  clear hF
  cases F with
  | false =>
    go_wp2
    go_ret
    exact ⟨rfl, HW.out⟩
  | true =>
  go_wp2_with fail
  refine (refValid_any o cap l _ (HR.out.later HW.out) (by omega)).mono ?_
  rintro e x3 ⟨rfl, hb⟩
  replace HW := Lib.hid (below_step HW.out hb)
  clear hb
  obtain ⟨V, hV⟩ : ∃ V, validL l = V := ⟨_, rfl⟩
  rw [hV]
  have HV := Lib.hid hV
  clear hV
  cases V with
  | false =>
    go_wp2
    go_ret
    exact ⟨rfl, HW.out⟩
  | true =>
  by_cases hl0 : l.length = 0
  · have hl0b : ((l.length : Int) == 0) = true := by rw [beq_iff_eq]; omega
    clear hl0
    go_wp2
    go_ret
    exact ⟨rfl, HW.out⟩
  have hl0b : ((l.length : Int) == 0) = false := by rw [beq_eq_false_iff_ne]; omega
  by_cases hw0 : which < 0
  · have hwd : decide (which < 0) = true := by simpa using hw0
    go_wp2
    go_ret
    exact ⟨rfl, HW.out⟩
  have hwd : decide (which < 0) = false := by simpa using hw0
  obtain ⟨q, rfl⟩ : ∃ q : Nat, which = (q : Int) := ⟨which.toNat, by omega⟩
  obtain ⟨T, hT⟩ : ∃ T, q % l.length = T := ⟨_, rfl⟩
  have hTl : T < l.length := by rw [← hT]; exact Nat.mod_lt _ (by omega)
  have eT : (q : Int) % (l.length : Int) = (T : Int) := by rw [← hT]; simp
  clear hT
  have HVL := Lib.hid (validL_iff.1 HV.out)
  have hl64 := HVL.out.1
  have hm64 := HVL.out.2.1
  have HST := Lib.hid (MisAt.start HV.out hTl)
  have HMA := Lib.hid (fun h => miss_all HV.out hTl h)
  have HWT := Lib.hid (validB_iff.1 (of_at HVL.out.2.2 hTl).2.2.2).2.2
  have hws : (getB l T).ws.length ≤ 64 := by
    have h1 := (of_at HVL.out.2.2 hTl).1
    have h2 := ws_le (l := l) (f := (getB l T).f)
    rw [h1] at h2
    omega
  obtain ⟨g, off, hgo, oo, cp, hw1, hw2, hms, c0, c1, c2⟩ := (HR.out.later HW.out) T hTl
  subst hgo
  have hxx := (validB_iff.1 (of_at HVL.out.2.2 hTl).2.2.2).2.1
  obtain ⟨x, hx⟩ : ∃ x, getB l T = x := ⟨_, rfl⟩
  rw [hx] at c0 c1 c2 hw1 hw2 hxx HST HMA HWT hms hws
  have HMS := Lib.hid hms
  clear hx hms
  have y1 : (0 : Int) ≤ (T : Int) := by omega
  have y2 : (T : Int) < (l.length : Int) := by omega
  have HXB := Lib.hid (Box3.new x3 42 (.int .i64 x.f) (.int .i64 x.x) (.slice oo x.ws.length cp))
  go_wp2_with fail
  clear c0 c1 c2 y1 y2 eT hwd hl0b
  replace HMS := Lib.hid (HMS.out.later HXB.out.below)
  replace HW := Lib.hid (below_step HW.out HXB.out.below)
  refine (Missing_any (some ⟨g, off, none⟩) cap l x.f _ (HR.out.later HW.out) hl).mono ?_
  rintro e x4 ⟨hb, og, cg, rfl, hx⟩
  replace HW := Lib.hid (below_step HW.out hb)
  replace HXB := Lib.hid (HXB.out.later hb)
  replace HMS := Lib.hid (HMS.out.later hb)
  have HG := Lib.hid hx
  clear hb hx
  obtain ⟨G, hG⟩ : ∃ G, missL l x.f = G := ⟨_, rfl⟩
  rw [hG] at HG HMA ⊢
  clear hG
  by_cases h63 : 63 < G.length
  · have h63d : decide (63 < G.length) = true := by simpa using h63
    have h63i : decide ((63 : Int) < (G.length : Int)) = true := by rw [decide_eq_true_eq]; omega
    go_wp2
    go_ret
    exact ⟨rfl, HW.out⟩
  have h63d : decide ((63 : Int) < (G.length : Int)) = false := by rw [decide_eq_false_iff_not]; omega
  have HGE := Lib.hid (HMA.out (by omega))
  have HGA := Lib.hid (fun (i : Nat) (g : Int) => show G[i]? = some g → x.x ≤ g ∧ g < lastN 0 x.ws ∧ hasN x.ws g = false ∧ (∀ g', 0 < i → G[i - 1]? = some g' → g' < g) from by rw [HGE.out]; exact gaps_at HWT.out)
  rw [← HGE.out] at HST
  clear HGE HMA HWT
  go_wp2
  clear h63d
  have HBX := Lib.hid (HR.out.later HW.out)
  go_loopw [10, 11, 12] (MisRel x4 x.f G x.ws.length) (fun _ _ i _ => G.length - (intOf i).toNat)
  case atStart => exact ⟨0, 0, _, _, l, Nat.zero_le _, rfl, rfl, by omega, rfl, hl64, HBX.out, HST.out, Below.refl _ _⟩
  case round =>
    obtain ⟨k, over, oB, cB, lB, hk, rfl, rfl, hov, rfl, hlB, hbx, hat, hb⟩ := hrel
    clear HBX HST
    have HBX := Lib.hid hbx
    have HAT := Lib.hid hat
    have HB := Lib.hid hb
    clear hbx hat hb
    by_cases hlt : k < G.length
    · obtain ⟨y, hy⟩ : ∃ y, G[k]? = some y := ⟨G[k], List.getElem?_eq_getElem hlt⟩
      obtain ⟨hy1, hy2, hy3, hy4⟩ := HGA.out k y hy
      have HHN := Lib.hid hy3
      have HPR := Lib.hid hy4
      clear hy3 hy4
      obtain ⟨gb, go, hgo, gc⟩ := (HG.out.later HB.out) k hlt
      subst hgo
      have HGC := Lib.hid (show wr.cell? ⟨gb, go + k, none⟩ = some (.int .i64 y) from gc.trans (by rw [List.getD_eq_getElem?_getD, hy]; rfl))
      clear gc
      have HY := Lib.hid hy
      clear hy
      have z1 : (0 : Int) ≤ (k : Int) := by omega
      have z2 : (k : Int) < (G.length : Int) := by omega
      go_wp2
      have HLT := Lib.hid (show (0 : Int) = lastN 0 (x.ws.take 0) from rfl)
      go_loopw [13, 14, 15] (fun n t j w2 => ∃ i : Nat, i ≤ x.ws.length ∧ j = .int .i64 i ∧ t = .bool false ∧ n = .int .i64 (lastN 0 (x.ws.take i)) ∧ Below wr.heap.size wr w2) (fun _ _ j _ => x.ws.length - (intOf j).toNat)
      case atStart => exact ⟨0, Nat.zero_le _, rfl, rfl, rfl, Below.refl _ _⟩
      case round =>
        obtain ⟨i, hi, rfl, rfl, rfl, hb⟩ := hrel
        clear HLT
        have HB2 := Lib.hid hb
        have HB3 := Lib.hid (below_step HB.out hb)
        clear hb
        have gc := cell_kept HB2.out HGC.out
        have b0 := cell_kept HB3.out HXB.out.c0
        have b1 := cell_kept HB3.out HXB.out.c1
        have b2 := cell_kept HB3.out HXB.out.c2
        by_cases hj : i < x.ws.length
        · obtain ⟨h, oh, hho, _, d1, _⟩ := (HMS.out.later HB3.out) i hj
          subst hho
          have HL2 := Lib.hid (lastN_take hj)
          have HNE := Lib.hid (hasN_get HHN.out hj)
          obtain ⟨u, hu⟩ : ∃ u, getM x.ws i = u := ⟨_, rfl⟩
          rw [hu] at d1 HL2 HNE
          clear hu
          have hne : (u.n == y) = false := by rw [beq_eq_false_iff_ne]; exact HNE.out
          have y1 : (0 : Int) ≤ (i : Int) := by omega
          have y2 : (i : Int) < (x.ws.length : Int) := by omega
          obtain ⟨LN, hLN⟩ : ∃ LN, lastN 0 (x.ws.take i) = LN := ⟨_, rfl⟩
          rw [hLN]
          clear hLN
          go_wp2_with fail
          go_quiet (fail)
          go_wp2
          go_roundw
          case rel => exact ⟨i + 1, by omega, by go_num, rfl, by rw [HL2.out], below_drewN HB2.out _⟩
          case measure => simp [intOf]; omega
        · obtain rfl : i = x.ws.length := by omega
          rw [List.take_length]
          obtain ⟨LN, hLN⟩ : ∃ LN, lastN 0 x.ws = LN := ⟨_, rfl⟩
          rw [hLN] at hy2 ⊢
          clear hLN
          have t1 : decide (y < x.x) = false := by simpa using hy1
          have t2 : decide (LN ≤ y) = false := by simpa using hy2
          have HSTP := Lib.hid (HAT.out.step HY.out)
          have HMID := Lib.hid (fun (w' : World) (hb' : Below wr.heap.size wr w') => Receive_any oB cB lB ⟨x.f, y, 0⟩ w' (HBX.out.later (below_step HB2.out hb')) (by omega))
          by_cases hk0 : k = 0
          · have t3 : decide ((0 : Int) < (k : Int)) = false := by rw [decide_eq_false_iff_not]; omega
            have t3n : decide (0 < k) = false := by rw [decide_eq_false_iff_not]; omega
            clear hk0
            go_wp2_with fail
            go_quiet (fail)
            go_wp2_with fail
            clear t1 t2 t3 t3n gc b0 b1 b2
            generalize hW5 : World.drewN wr _ = W5
            have HB5 := Lib.hid (show Below wr.heap.size wr W5 by rw [← hW5]; exact below_drewN (Below.refl _ _) _)
            clear hW5
            refine wp_region_ph [8] mixed (by kernel_rfl) ?_
            refine wpP_cons ?_
            simp only [List.take_succ_cons, List.take_zero, List.drop_zero]
            intro KR hR
            have HR := Lib.hid hR
            clear hR
            have HCC := Lib.hid (show ∀ w'', Below W5.drew.heap.size W5.drew w'' → w''.cell? ⟨x3.heap.size, 0, none⟩ = some (.int .i64 x.f) ∧ w''.cell? ⟨gb, go + k, none⟩ = some (.int .i64 y) from fun w'' hw0 => by have hw := below_undrew hw0; exact ⟨cell_kept (below_step HB3.out (below_step HB5.out hw)) HXB.out.c0, cell_kept (below_step HB2.out (below_step HB5.out hw)) HGC.out⟩)
            ((with_reducible refine wpB_move ?_ ?_); exact rfl; simp only [Act.put, List.setIfInBounds_toArray, List.set_cons_zero, List.set_cons_succ])
            apply wpB_val rfl
            · (intro w' hw'; go_simp; with_reducible rfl)
            simp only [Act.put, List.setIfInBounds_toArray, List.set_cons_zero, List.set_cons_succ]
            apply wpB_val rfl
            · (intro w' hw'; obtain ⟨c0, c1⟩ := HCC.out w' hw'; go_simp; with_reducible rfl)
            simp only [Act.put, List.setIfInBounds_toArray, List.set_cons_zero, List.set_cons_succ]
            ((with_reducible refine wpB_move ?_ ?_); exact rfl; simp only [Act.put, List.setIfInBounds_toArray, List.set_cons_zero, List.set_cons_succ])
            ((with_reducible refine wpB_move ?_ ?_); exact rfl; simp only [Act.put, List.setIfInBounds_toArray, List.set_cons_zero, List.set_cons_succ])
            apply wpB_val rfl
            · (intro w' hw'; go_simp; with_reducible rfl)
            simp only [Act.put, List.setIfInBounds_toArray, List.set_cons_zero, List.set_cons_succ]
            apply wpB_val rfl
            · (intro w' hw'; obtain ⟨c0, c1⟩ := HCC.out w' hw'; go_simp; with_reducible rfl)
            simp only [Act.put, List.setIfInBounds_toArray, List.set_cons_zero, List.set_cons_succ]
            apply wpB_val rfl
            · (intro w' hw'; go_simp; with_reducible rfl)
            simp only [Act.put, List.setIfInBounds_toArray, List.set_cons_zero, List.set_cons_succ]
            refine wpB_nil (HR.out _ (fun w2 hw2 => ?_))
            clear HR HCC
            replace hw2 := below_undrew hw2
            refine ⟨_, rfl, rfl, ?_⟩
            refine stepC_call (f := 12) (args := #[.slice oB lB.length cB, msgV ⟨x.f, y, 0⟩]) (w' := w2) (by go_simp) ?_
            refine (HMID.out w2 (below_step HB5.out hw2)).mono ?_
            rintro e x6 ⟨hb, oa, ox, ca, cx, rfl, hx, hy⟩
            have HB6 := Lib.hid (below_step HB3.out (below_step HB5.out (below_step hw2 hb)))
            have HA6 := Lib.hid hx
            clear hb hx hy HMID hw2
            refine ⟨_, rfl, ?_⟩
            simp only [Act.put, List.setIfInBounds_toArray, List.set_cons_zero, List.set_cons_succ]
            refine wpP_nil ?_
            simp only [List.drop_succ_cons, List.drop_zero]
            intro KR hR
            have HR := Lib.hid hR
            clear hR
            ((with_reducible refine wpB_move ?_ ?_); exact rfl; simp only [Act.put, List.setIfInBounds_toArray, List.set_cons_zero, List.set_cons_succ])
            apply wpB_val rfl
            · (intro w' hw'; go_simp; with_reducible rfl)
            simp only [Act.put, List.setIfInBounds_toArray, List.set_cons_zero, List.set_cons_succ]
            apply wpB_val rfl
            · (intro w' hw'; go_simp; with_reducible rfl)
            simp only [Act.put, List.setIfInBounds_toArray, List.set_cons_zero, List.set_cons_succ]
            apply wpB_val rfl
            · (intro w' hw'; go_simp; with_reducible rfl)
            simp only [Act.put, List.setIfInBounds_toArray, List.set_cons_zero, List.set_cons_succ]
            apply wpB_val rfl
            · (intro w' hw'; go_simp; with_reducible rfl)
            simp only [Act.put, List.setIfInBounds_toArray, List.set_cons_zero, List.set_cons_succ]
            apply wpB_val rfl
            · (intro w' hw'; go_simp; with_reducible rfl)
            simp only [Act.put, List.setIfInBounds_toArray, List.set_cons_zero, List.set_cons_succ]
            apply wpB_val rfl
            · (intro w' hw'; go_simp; with_reducible rfl)
            simp only [Act.put, List.setIfInBounds_toArray, List.set_cons_zero, List.set_cons_succ]
            refine wpB_nil (HR.out _ (fun w3 hw3 => ?_))
            clear HR
            have HB7 := Lib.hid (below_step HB6.out hw3)
            have HA := Lib.hid (HA6.out.later hw3)
            clear hw3 HB6 HA6
            have HNX := Lib.hid HSTP.out.2.1
            have hx65 := HSTP.out.2.2
            have hL64 := (validL_iff.1 HNX.out.valid).1
            rw [HSTP.out.1]
            obtain ⟨LA, hLA⟩ : ∃ L, outL lB ⟨x.f, y, 0⟩ = L := ⟨_, rfl⟩
            obtain ⟨LX, hLX⟩ : ∃ L, outM lB ⟨x.f, y, 0⟩ = L := ⟨_, rfl⟩
            rw [hLA] at HA HNX hL64 ⊢
            rw [hLX] at HNX hx65 ⊢
            clear hLA hLX HSTP
            go_wp2
            go_roundw
            case rel => exact ⟨k + 1, over + LX.length, oa, ca, LA, by omega, by go_num, by go_num, by have := HNX.out.sum; omega, rfl, hL64, HA.out, HNX.out, HB7.out⟩
            case measure => simp [intOf]; omega
          · have t3 : decide ((0 : Int) < (k : Int)) = true := by rw [decide_eq_true_eq]; omega
            have t3n : decide (0 < k) = true := by rw [decide_eq_true_eq]; omega
            obtain ⟨K1, hK1⟩ : ∃ K1, k - 1 = K1 := ⟨_, rfl⟩
            obtain ⟨y', hy'⟩ : ∃ y', G[k - 1]? = some y' := ⟨G[k - 1], List.getElem?_eq_getElem (by omega)⟩
            have t4 : decide (y ≤ y') = false := by rw [decide_eq_false_iff_not]; have := HPR.out y' (by omega) hy'; omega
            obtain ⟨gb', go', hgo', gc2⟩ := (HG.out.later HB3.out) (k - 1) (by omega)
            obtain ⟨rfl, rfl⟩ : gb = gb' ∧ go = go' := by injection hgo' with h; injection h with h1 h2; exact ⟨h1, h2⟩
            rw [List.getD_eq_getElem?_getD, hy'] at gc2
            rw [hK1] at gc2
            have gc3 : wr.cell? ⟨gb, go + K1, none⟩ = some (.int .i64 y') := gc2
            have z3 : (0 : Int) ≤ (K1 : Int) := by omega
            have z4 : (K1 : Int) < (G.length : Int) := by omega
            have e1 : IntKind.i64.wrap ((k : Int) - 1) = (K1 : Int) := by rw [IntWalk.i64_in _ (by omega)]; omega
            clear hk0 hK1 hy' gc2 hgo'
            go_wp2_with fail
            go_quiet (fail)
            clear e1 gc3 z3 z4 t4
            go_wp2_with fail
            clear t1 t2 t3 t3n gc b0 b1 b2
            generalize hW5 : World.drewN wr _ = W5
            have HB5 := Lib.hid (show Below wr.heap.size wr W5 by rw [← hW5]; exact below_drewN (Below.refl _ _) _)
            clear hW5
            refine wp_region_ph [8] mixed (by kernel_rfl) ?_
            refine wpP_cons ?_
            simp only [List.take_succ_cons, List.take_zero, List.drop_zero]
            intro KR hR
            have HR := Lib.hid hR
            clear hR
            have HCC := Lib.hid (show ∀ w'', Below W5.drew.heap.size W5.drew w'' → w''.cell? ⟨x3.heap.size, 0, none⟩ = some (.int .i64 x.f) ∧ w''.cell? ⟨gb, go + k, none⟩ = some (.int .i64 y) from fun w'' hw0 => by have hw := below_undrew hw0; exact ⟨cell_kept (below_step HB3.out (below_step HB5.out hw)) HXB.out.c0, cell_kept (below_step HB2.out (below_step HB5.out hw)) HGC.out⟩)
            ((with_reducible refine wpB_move ?_ ?_); exact rfl; simp only [Act.put, List.setIfInBounds_toArray, List.set_cons_zero, List.set_cons_succ])
            apply wpB_val rfl
            · (intro w' hw'; go_simp; with_reducible rfl)
            simp only [Act.put, List.setIfInBounds_toArray, List.set_cons_zero, List.set_cons_succ]
            apply wpB_val rfl
            · (intro w' hw'; obtain ⟨c0, c1⟩ := HCC.out w' hw'; go_simp; with_reducible rfl)
            simp only [Act.put, List.setIfInBounds_toArray, List.set_cons_zero, List.set_cons_succ]
            ((with_reducible refine wpB_move ?_ ?_); exact rfl; simp only [Act.put, List.setIfInBounds_toArray, List.set_cons_zero, List.set_cons_succ])
            ((with_reducible refine wpB_move ?_ ?_); exact rfl; simp only [Act.put, List.setIfInBounds_toArray, List.set_cons_zero, List.set_cons_succ])
            apply wpB_val rfl
            · (intro w' hw'; go_simp; with_reducible rfl)
            simp only [Act.put, List.setIfInBounds_toArray, List.set_cons_zero, List.set_cons_succ]
            apply wpB_val rfl
            · (intro w' hw'; obtain ⟨c0, c1⟩ := HCC.out w' hw'; go_simp; with_reducible rfl)
            simp only [Act.put, List.setIfInBounds_toArray, List.set_cons_zero, List.set_cons_succ]
            apply wpB_val rfl
            · (intro w' hw'; go_simp; with_reducible rfl)
            simp only [Act.put, List.setIfInBounds_toArray, List.set_cons_zero, List.set_cons_succ]
            refine wpB_nil (HR.out _ (fun w2 hw2 => ?_))
            clear HR HCC
            replace hw2 := below_undrew hw2
            refine ⟨_, rfl, rfl, ?_⟩
            refine stepC_call (f := 12) (args := #[.slice oB lB.length cB, msgV ⟨x.f, y, 0⟩]) (w' := w2) (by go_simp) ?_
            refine (HMID.out w2 (below_step HB5.out hw2)).mono ?_
            rintro e x6 ⟨hb, oa, ox, ca, cx, rfl, hx, hy⟩
            have HB6 := Lib.hid (below_step HB3.out (below_step HB5.out (below_step hw2 hb)))
            have HA6 := Lib.hid hx
            clear hb hx hy HMID hw2
            refine ⟨_, rfl, ?_⟩
            simp only [Act.put, List.setIfInBounds_toArray, List.set_cons_zero, List.set_cons_succ]
            refine wpP_nil ?_
            simp only [List.drop_succ_cons, List.drop_zero]
            intro KR hR
            have HR := Lib.hid hR
            clear hR
            ((with_reducible refine wpB_move ?_ ?_); exact rfl; simp only [Act.put, List.setIfInBounds_toArray, List.set_cons_zero, List.set_cons_succ])
            apply wpB_val rfl
            · (intro w' hw'; go_simp; with_reducible rfl)
            simp only [Act.put, List.setIfInBounds_toArray, List.set_cons_zero, List.set_cons_succ]
            apply wpB_val rfl
            · (intro w' hw'; go_simp; with_reducible rfl)
            simp only [Act.put, List.setIfInBounds_toArray, List.set_cons_zero, List.set_cons_succ]
            apply wpB_val rfl
            · (intro w' hw'; go_simp; with_reducible rfl)
            simp only [Act.put, List.setIfInBounds_toArray, List.set_cons_zero, List.set_cons_succ]
            apply wpB_val rfl
            · (intro w' hw'; go_simp; with_reducible rfl)
            simp only [Act.put, List.setIfInBounds_toArray, List.set_cons_zero, List.set_cons_succ]
            apply wpB_val rfl
            · (intro w' hw'; go_simp; with_reducible rfl)
            simp only [Act.put, List.setIfInBounds_toArray, List.set_cons_zero, List.set_cons_succ]
            apply wpB_val rfl
            · (intro w' hw'; go_simp; with_reducible rfl)
            simp only [Act.put, List.setIfInBounds_toArray, List.set_cons_zero, List.set_cons_succ]
            refine wpB_nil (HR.out _ (fun w3 hw3 => ?_))
            clear HR
            have HB7 := Lib.hid (below_step HB6.out hw3)
            have HA := Lib.hid (HA6.out.later hw3)
            clear hw3 HB6 HA6
            have HNX := Lib.hid HSTP.out.2.1
            have hx65 := HSTP.out.2.2
            have hL64 := (validL_iff.1 HNX.out.valid).1
            rw [HSTP.out.1]
            obtain ⟨LA, hLA⟩ : ∃ L, outL lB ⟨x.f, y, 0⟩ = L := ⟨_, rfl⟩
            obtain ⟨LX, hLX⟩ : ∃ L, outM lB ⟨x.f, y, 0⟩ = L := ⟨_, rfl⟩
            rw [hLA] at HA HNX hL64 ⊢
            rw [hLX] at HNX hx65 ⊢
            clear hLA hLX HSTP
            go_wp2
            go_roundw
            case rel => exact ⟨k + 1, over + LX.length, oa, ca, LA, by omega, by go_num, by go_num, by have := HNX.out.sum; omega, rfl, hL64, HA.out, HNX.out, HB7.out⟩
            case measure => simp [intOf]; omega
    · obtain rfl : k = G.length := by omega
      have HDN := Lib.hid (HAT.out.done rfl)
      have b0 := cell_kept HB.out HXB.out.c0
      go_wp2_with fail
      clear b0
      refine (Of_any oB cB lB x.f _ HBX.out (by omega)).mono ?_
      rintro e x6 ⟨hb, oo6, cp6, rfl, hms6, hcp6, hle6⟩
      have HB6 := Lib.hid (below_step HB.out hb)
      obtain ⟨yb, hyb⟩ : ∃ yb, ofF lB x.f = yb := ⟨_, rfl⟩
      obtain ⟨K, hK⟩ : ∃ K, hasF lB x.f = K := ⟨_, rfl⟩
      rw [hyb] at HDN
      rw [hyb, hK]
      clear hb hyb hK hms6 hcp6 hle6
      have e1 : ((yb.ws.length : Int) == 0) = true := by rw [beq_iff_eq, HDN.out.1]; rfl
      have e2 : ((over : Int) == (G.length : Int) + (x.ws.length : Int)) = true := by rw [beq_iff_eq]; have := HDN.out.2; omega
      have b2 := cell_kept HB6.out HXB.out.c2
      have HBE := Lib.hid (below_step HW.out HB6.out)
      have HXL := Lib.hid (cell_lt b2)
      have hxl : x3.heap.size < x6.heap.size := HXL.out
      go_wp2
      go_ret
      exact ⟨rfl, below_alloc HBE.out _⟩
end Go.Proofs.Ytehpdjlidmhkmaa
