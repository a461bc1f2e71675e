/- Chapter 39: Missing of the reference. -/
import Derived.Test.YtehpdjlidmhkmaaWm39
import Derived.Test.YtehpdjlidmhkmaaWj39
namespace Go.Proofs.Ytehpdjlidmhkmaa
open Go.RowKit
attribute [local go_sem] Oper.semAt_some

theorem cutN_of {f p q : Int} {ws : List Msg} {k : Nat} (h : waitsOk f p ws = true) (hk : k < ws.length) (h1 : ∀ j, j < k → (getM ws j).n < q) (h2 : q ≤ (getM ws k).n) : CutN ws q k := by
  refine ⟨by omega, h1, fun i hi hl => ?_⟩
  rcases Nat.lt_or_eq_of_le hi with h3 | rfl
  · have := List.pairwise_iff_getElem.1 (nums_pair h).1 k i (by simp [nums]; omega) (by simp [nums]; omega) h3
    have e1 : (nums ws)[k]'(by simp [nums]; omega) = (getM ws k).n := by simp [nums, getM, hk]
    have e2 : (nums ws)[i]'(by simp [nums]; omega) = (getM ws i).n := by simp [nums, getM, hl]
    rw [e1, e2] at this
    omega
  · exact h2
theorem filter_step {p : Int → Bool} {q L : Int} (h : q < L) : (up q (L - q).toNat).filter p = (if p q then [q] else []) ++ (up (q + 1) (L - (q + 1)).toNat).filter p := by
  rw [up_step h, List.filter_cons]
  split <;> rfl

structure MissG (W wr : World) (cs : Array Value) (G : List Int) (v : Value) (acc rest : List Int) (n : Nat) : Prop where
  row : Grow W wr 3 1 42 cs v n (acc.map (Value.int .i64 ·))
  len : acc.length = n
  le : n ≤ 64
  eq : G = (acc ++ rest).take 64
theorem MissG.later {W wr wr' : World} {cs : Array Value} {G : List Int} {v : Value} {acc rest rest' : List Int} {n : Nat} (h : MissG W wr cs G v acc rest n) (hb : Below wr.heap.size wr wr') (hr : rest = rest') : MissG W wr' cs G v acc rest' n := by
  subst hr
  exact ⟨h.row.later hb, h.len, h.le, h.eq⟩
theorem MissG.app {W wr wr' : World} {cs : Array Value} {G : List Int} {v v' : Value} {acc rest rest' : List Int} {n : Nat} {x : Int} (h : MissG W wr cs G v acc rest n) (hr : rest = [x] ++ rest') (hn : n + 1 ≤ 64) (hrow : Grow W wr' 3 1 42 cs v' (n + 1) (acc.map (Value.int .i64 ·) ++ [.int .i64 x])) : MissG W wr' cs G v' (acc ++ [x]) rest' (n + 1) :=
  ⟨hrow.cast rfl rfl (by simp), by rw [List.length_append, h.len]; rfl, hn, by rw [h.eq, hr]; simp⟩
theorem MissG.fin {W wr : World} {cs : Array Value} {G : List Int} {v : Value} {acc rest : List Int} {n : Nat} (h : MissG W wr cs G v acc rest n) (hr : n = 64 ∨ rest = []) : G = acc := by
  rw [h.eq]
  rcases hr with hr | hr
  · rw [take_full (by rw [h.len, hr])]
  · rw [hr, List.append_nil, List.take_of_length_le (by rw [h.len]; exact h.le)]

set_option maxRecDepth 100000 in
set_option maxHeartbeats 8000000 in
theorem refMissing_any (o : Option Addr) (cap : Nat) (l : List Bx) (f : Int) (w : World) (hr : Bxs w o l) (hl : l.length ≤ 1000000000000000) : Calls Try.prog 18 #[.slice o l.length cap, .int .i64 f] w (OutI (missL l f) w) := by
  have HR := Lib.hid hr
  clear hr
  obtain ⟨G, hG⟩ : ∃ G, missL l f = G := ⟨_, rfl⟩
  rw [hG]
  have HG := Lib.hid hG
  clear hG
  go_enter Try.func18, Try.ntmps18
  go_wp2_with fail
  refine (refValid_any o cap l w HR.out (by omega)).mono ?_
  rintro e w1 ⟨rfl, hb1⟩
  have HB1 := Lib.hid hb1
  clear hb1
  obtain ⟨V, hV⟩ : ∃ V, validL l = V := ⟨_, rfl⟩
  rw [hV]
  have HV := Lib.hid hV
  clear hV
  go_wp2_with fail
  refine (Of_any o cap l f w1 (HR.out.later HB1.out) (by omega)).mono ?_
  rintro e w2 ⟨hb2, oo, cp, rfl, hms, hcp, hle⟩
  have HMS := Lib.hid hms
  have HB2 := Lib.hid (below_step HB1.out hb2)
  have HHAS : Hid (∃ K, hasF l f = K) := Lib.hid ⟨_, rfl⟩
  obtain ⟨x, hx⟩ : ∃ x, ofF l f = x := ⟨_, rfl⟩
  obtain ⟨K, hK⟩ : ∃ K, hasF l f = K := ⟨_, rfl⟩
  have HX := Lib.hid hx
  have HK := Lib.hid hK
  rw [hx] at HMS hle hcp
  rw [hx, hK]
  clear hms hb2 hx hK HHAS
  cases V with
  | false =>
    have HE := Lib.hid (show G = [] by rw [← HG.out]; exact missL_no (.inl HV.out))
    go_wp2
    go_ret
    exact OutI.nil (below_alloc HB2.out _) HE.out
  | true =>
    cases K with
    | false =>
      have HE := Lib.hid (show G = [] by rw [← HG.out]; exact missL_no (.inr (.inl HK.out)))
      go_wp2
      go_ret
      exact OutI.nil (below_alloc HB2.out _) HE.out
    | true =>
      have HOK := Lib.hid (validL_iff.1 HV.out).2.2
      by_cases h0 : x.ws.length = 0
      · have HE := Lib.hid (show G = [] by rw [← HG.out]; exact missL_no (.inr (.inr (by rw [HX.out]; exact List.eq_nil_of_length_eq_zero h0))))
        have h0i : (x.ws.length : Int) = 0 := by omega
        go_wp2
        go_ret
        exact OutI.nil (below_alloc HB2.out _) HE.out
      · have h0b : ((x.ws.length : Int) == 0) = false := by rw [beq_eq_false_iff_ne]; omega
        have HVB := Lib.hid (show validB x = true by
          have h1 := (cut_has HOK.out (cutF HOK.out)).2 HK.out
          have h2 := ((cut_has HOK.out (cutF HOK.out)).1.1 HK.out).1
          rw [← HX.out, h1]
          exact (of_at HOK.out h2).2.2.2)
        have HVX := Lib.hid (validB_iff.1 HVB.out)
        have hxx : 1 ≤ x.x ∧ x.x ≤ 1000001 := HVX.out.2.1
        have HGG := Lib.hid (show G = (([] : List Int) ++ (up x.x ((getM x.ws (x.ws.length - 1)).n - x.x).toNat).filter (fun k => !hasN x.ws k)).take 64 by
          rw [← HG.out, missL_yes HV.out HK.out, HX.out, gaps_filter (waitsOk_mono (q := x.x - 1) (by omega) HVX.out.2.2) (by omega) (fun m hm => by
            have := (nums_pair HVX.out.2.2).2 m.n (List.mem_map.2 ⟨m, hm, rfl⟩)
            omega), lastN_get (by intro e; rw [e] at h0; exact h0 rfl)]
          rfl)
        have HVL := Lib.hid (validM_iff.1 (waits_valid (i := x.ws.length - 1) HVX.out.2.2 (by omega))).2.1
        have HLG := Lib.hid (show x.x < (getM x.ws (x.ws.length - 1)).n by
          have := (nums_pair HVX.out.2.2).2 (getM x.ws (x.ws.length - 1)).n (List.mem_map.2 ⟨getM x.ws (x.ws.length - 1), by rw [getM_eq (by omega)]; exact List.getElem_mem _, rfl⟩)
          exact this)
        obtain ⟨N1, hN1⟩ : ∃ N1, x.ws.length - 1 = N1 := ⟨_, rfl⟩
        rw [hN1] at HGG HVL HLG
        obtain ⟨L, hL⟩ : ∃ L, (getM x.ws N1).n = L := ⟨_, rfl⟩
        rw [hL] at HGG HVL HLG
        have HL := Lib.hid hL
        have eN : (x.ws.length : Int) - 1 = (N1 : Int) := by omega
        have hLb := HVL.out
        have hLx := HLG.out
        clear h0 hL
        go_wp2
        clear h0b
        have HS0 := Lib.hid (show MissG w2 (w2.alloc (.cells #[.int .i64 x.f, .int .i64 x.x, .slice oo x.ws.length cp] 42)) #[.int .i64 x.f, .int .i64 x.x, .slice oo x.ws.length cp] G (.slice none 0 0) [] ((up x.x (L - x.x).toNat).filter (fun k => !hasN x.ws k)) 0 from ⟨Grow.new .., rfl, by omega, HGG.out⟩)
        go_loopw [8, 9, 10] (fun v i z wr => ∃ (k n : Nat) (q : Int) (acc : List Int), i = .int .i64 k ∧ z = .int .i64 q ∧ (x.x ≤ q ∧ q ≤ L) ∧ k ≤ N1 ∧ (∀ j, j < k → (getM x.ws j).n < q) ∧ MissG w2 wr #[.int .i64 x.f, .int .i64 x.x, .slice oo x.ws.length cp] G v acc ((up q (L - q).toNat).filter (fun k => !hasN x.ws k)) n) (fun _ _ z _ => (L - intOf z).toNat)
        case atStart => exact ⟨0, 0, x.x, [], rfl, rfl, by omega, by omega, fun j hj => absurd hj (by omega), HS0.out⟩
        case round =>
          obtain ⟨k, n, q, acc, rfl, rfl, hq, hk, hjk, hst⟩ := hrel
          have HST := Lib.hid hst
          have HJK := Lib.hid hjk
          have hn64 := hst.le
          clear hst hjk HS0
          have b1 : wr.cell? ⟨w2.heap.size, 1, none⟩ = some (.int .i64 x.x) := HST.out.row.blk.cell 1
          have b2 : wr.cell? ⟨w2.heap.size, 2, none⟩ = some (.slice oo x.ws.length cp) := HST.out.row.blk.cell 2
          obtain ⟨h, oh, hho, _, m1, _⟩ := (HMS.out.later HST.out.row.below) N1 (by omega)
          rw [HL.out] at m1
          have HCK := Lib.hid (fun (k : Nat) (hk : k ≤ N1) => show wr.cell? ⟨h, oh + k * 3 + 1, none⟩ = some (.int .i64 (getM x.ws k).n) from by
            obtain ⟨h', oh', hho', _, m1', _⟩ := (HMS.out.later HST.out.row.below) k (by omega)
            rw [hho] at hho'
            injection hho' with hho'
            injection hho' with e1 e2
            subst e1
            subst e2
            exact m1')
          subst hho
          obtain ⟨ov, cv, hvs, _⟩ := HST.out.row.row.shape
          subst hvs
          have z1 : (0 : Int) ≤ (N1 : Int) := by omega
          have z2 : (N1 : Int) < (x.ws.length : Int) := by omega
          by_cases hlq : q < L
          · by_cases h64 : n < 64
            · have h64d : decide ((n : Int) < 64) = true := by simp; omega
              go_wp2
              clear h64d m1
              go_loop [9] (fun i => ∃ k : Nat, i = .int .i64 k ∧ k ≤ N1 ∧ (∀ j, j < k → (getM x.ws j).n < q)) (fun i => N1 + 1 - (intOf i).toNat)
              case atStart => exact ⟨k, rfl, hk, HJK.out⟩
              case round =>
                clear HJK hk
                obtain ⟨k, rfl, hk, hjk⟩ := hrel
                have HJK := Lib.hid hjk
                clear hjk
                have m1 := HCK.out k hk
                obtain ⟨m, hm⟩ : ∃ m, (getM x.ws k).n = m := ⟨_, rfl⟩
                rw [hm] at m1
                have HM := Lib.hid hm
                clear hm
                have y1 : (0 : Int) ≤ (k : Int) := by omega
                have y2 : (k : Int) < (x.ws.length : Int) := by omega
                by_cases hmq : m < q
                · have hkn : k < N1 := by
                    rcases Nat.lt_or_eq_of_le hk with h1 | h1
                    · exact h1
                    · rw [h1, HL.out] at HM
                      have := HM.out
                      omega
                  have HJ2 := Lib.hid (show ∀ j, j < k + 1 → (getM x.ws j).n < q from fun j hj => by
                    rcases Nat.lt_or_eq_of_le (Nat.le_of_lt_succ hj) with h1 | rfl
                    · exact HJK.out j h1
                    · rw [HM.out]; exact hmq)
                  go_wp2
                  go_round
                  case rel => exact ⟨k + 1, by go_num, by omega, HJ2.out⟩
                  case measure => simp [intOf]; omega
                · have hmd : decide (m < q) = false := by simpa using hmq
                  have HCT := Lib.hid (cutN_has HVX.out.2.2 (cutN_of HVX.out.2.2 (show k < x.ws.length by omega) HJK.out (by rw [HM.out]; omega)))
                  have HJ2 := Lib.hid (show ∀ j, j < k → (getM x.ws j).n < q + 1 from fun j hj => by have := HJK.out j hj; omega)
                  by_cases hme : m = q
                  · have HF := Lib.hid (show (up q (L - q).toNat).filter (fun k => !hasN x.ws k) = (up (q + 1) (L - (q + 1)).toNat).filter (fun k => !hasN x.ws k) by
                      rw [filter_step hlq, HCT.out.2 ⟨by omega, by rw [HM.out, hme]⟩]
                      rfl)
                    subst hme
                    go_wp2
                    go_roundw
                    case rel => exact ⟨k, n, m + 1, acc, rfl, rfl, by omega, by omega, HJ2.out, HST.out.later (Below.refl _ _) HF.out⟩
                    case measure => simp [intOf]; omega
                  · have hmb : (m != q) = true := by simpa using hme
                    have HF := Lib.hid (show (up q (L - q).toNat).filter (fun k => !hasN x.ws k) = [q] ++ (up (q + 1) (L - (q + 1)).toNat).filter (fun k => !hasN x.ws k) by
                      have : hasN x.ws q = false := by
                        rw [Bool.eq_false_iff]
                        intro e
                        exact hme (by rw [← HM.out]; exact (HCT.out.1 e).2)
                      rw [filter_step hlq, this]
                      rfl)
                    clear hme
                    have HN := Lib.hid (show n + 1 ≤ 1000000000 by omega)
                    go_wp2_with (at_builtin; refine wp_append1G (news := [.int .i64 q]) elemI HST.out.row HN.out (by decide) rfl (oneI q) rfl _ _ rfl rfl rfl rfl ?_)
                    clear m1 b1 b2
                    intro v2 w4 hr2
                    have HS2 := Lib.hid (HST.out.app HF.out (by omega) hr2)
                    clear hr2
                    go_wp2
                    go_roundw
                    case rel => exact ⟨k, n + 1, q + 1, acc ++ [q], rfl, rfl, by omega, by omega, HJ2.out, HS2.out⟩
                    case measure => simp [intOf]; omega
            · have h64d : decide ((n : Int) < 64) = false := by simp; omega
              have HFI := Lib.hid (HST.out.fin (.inl (by omega)))
              go_wp2
              go_ret
              exact OutI.of (HST.out.row.row.rebase HB2.out) HST.out.len HFI.out
          · have hld : decide (q < L) = false := by simpa using hlq
            have HFI := Lib.hid (HST.out.fin (.inr (by rw [up_end hlq]; rfl)))
            go_wp2
            go_ret
            exact OutI.of (HST.out.row.row.rebase HB2.out) HST.out.len HFI.out
end Go.Proofs.Ytehpdjlidmhkmaa
