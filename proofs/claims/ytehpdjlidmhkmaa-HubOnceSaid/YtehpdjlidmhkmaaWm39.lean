/- Chapter 39: Missing. -/
import Derived.Test.YtehpdjlidmhkmaaWk39
import Derived.Test.YtehpdjlidmhkmaaPlainD39
namespace Go.Proofs.Ytehpdjlidmhkmaa
open Go.RowKit
attribute [local go_sem] Oper.semAt_some

def OutI (l : List Int) (w : World) (e : Ending) (w' : World) : Prop :=
  Below w.heap.size w w' ∧ ∃ (o : Option Addr) (cap : Nat), e = .returned (.slice o l.length cap) ∧ Ints w' o l
@[reducible] def intC (n : Int) : List Value := [.int .i64 n]
theorem Row.rebase {w w2 wr : World} {e : TypeId} {size : Nat} {v : Value} {n : Nat} {xs : List Value} (h : Row w2 wr e size v n xs) (hb : Below w.heap.size w w2) : Row w wr e size v n xs := by
  refine ⟨⟨h.own.1, ?_⟩, below_step hb h.below⟩
  rcases h.own.2 with h0 | ⟨g, cap, cur, hv, hg, h5⟩
  · exact .inl h0
  · exact .inr ⟨g, cap, cur, hv, Nat.le_trans hb.size hg, h5⟩
theorem OutI.of {w w' : World} {v : Value} {n : Nat} {l acc : List Int} (h : Row w w' 3 1 v n (acc.map (Value.int .i64 ·))) (hn : acc.length = n) (hl : l = acc) : OutI l w (.returned v) w' := by
  subst hl
  obtain ⟨o, cap, rfl, hc⟩ := h.shape
  exact ⟨h.below, o, cap, by rw [hn], h.ints rfl⟩
theorem OutI.nil {w w' : World} {l : List Int} (hb : Below w.heap.size w w') (h : l = []) : OutI l w (.returned (.slice none 0 0)) w' := by
  subst h
  exact ⟨hb, none, 0, rfl, Ints.nil⟩
theorem up_step {n b : Int} (h : n < b) : up n (b - n).toNat = n :: up (n + 1) (b - (n + 1)).toNat := by
  rw [show (b - n).toNat = (b - (n + 1)).toNat + 1 by omega, up]
theorem up_end {n b : Int} (h : ¬ n < b) : up n (b - n).toNat = [] := by
  rw [show (b - n).toNat = 0 by omega, up]

/-- The state of the loops of Missing. -/
structure MissSt (w wr : World) (G : List Int) (v : Value) (acc rest : List Int) (n : Nat) : Prop where
  row : Row w wr 3 1 v n (acc.map (Value.int .i64 ·))
  len : acc.length = n
  le : n ≤ 64
  eq : G.take 64 = (acc ++ rest).take 64
theorem MissSt.full {w wr : World} {G : List Int} {v : Value} {acc rest : List Int} {n : Nat} (h : MissSt w wr G v acc rest n) (hn : n = 64) : G.take 64 = acc := by
  rw [h.eq, take_full (by rw [h.len, hn])]
theorem MissSt.done {w wr : World} {G : List Int} {v : Value} {acc rest : List Int} {n : Nat} (h : MissSt w wr G v acc rest n) (hr : rest = []) : G.take 64 = acc := by
  rw [h.eq, hr, List.append_nil, List.take_of_length_le (by rw [h.len]; exact h.le)]
theorem MissSt.later {w wr wr' : World} {G : List Int} {v : Value} {acc rest rest' : List Int} {n : Nat} (h : MissSt w wr G v acc rest n) (hb : Below wr.heap.size wr wr') (hr : rest = rest') : MissSt w wr' G v acc rest' n := by
  subst hr
  exact ⟨h.row.later hb, h.len, h.le, h.eq⟩
theorem MissSt.app {w wr wr' : World} {G : List Int} {v v' : Value} {acc rest rest' : List Int} {n : Nat} {x : Int} (h : MissSt w wr G v acc rest n) (hr : rest = x :: rest') (hn : n + 1 ≤ 64) (hrow : Row w wr' 3 1 v' (n + 1) (acc.map (Value.int .i64 ·) ++ [.int .i64 x])) : MissSt w wr' G v' (acc ++ [x]) rest' (n + 1) :=
  ⟨hrow.cast rfl (by simp), by rw [List.length_append, h.len]; rfl, hn, by rw [h.eq, hr]; simp⟩

set_option maxRecDepth 100000 in
set_option maxHeartbeats 8000000 in
theorem Missing_any (o : Option Addr) (cap : Nat) (l : List Bx) (f : Int) (w : World) (hr : Bxs w o l) (hl : l.length ≤ 1000000000000000) : Calls Try.prog 17 #[.slice o l.length cap, .int .i64 f] w (OutI (missL l f) w) := by
  have HR := Lib.hid hr
  clear hr
  obtain ⟨G, hG⟩ : ∃ G, missL l f = G := ⟨_, rfl⟩
  rw [hG]
  have HG := Lib.hid hG
  clear hG
  go_enter Try.func17, Try.ntmps17
  go_wp2_with fail
  refine (findB_any o cap l f w HR.out hl).mono ?_
  rintro e w1 ⟨rfl, hb1⟩
  have HB1 := Lib.hid hb1
  clear hb1
  obtain ⟨K, hK⟩ : ∃ K, knownF l f = K := ⟨_, rfl⟩
  obtain ⟨T, hT⟩ : ∃ T, atF l f = T := ⟨_, rfl⟩
  rw [hK, hT]
  have HK := Lib.hid hK
  have HT := Lib.hid hT
  clear hK hT
  go_wp2_with fail
  refine (Valid_any o cap l w1 (HR.out.later HB1.out) (by omega)).mono ?_
  rintro e w2 ⟨rfl, hb2⟩
  have HB2 := Lib.hid (below_step HB1.out hb2)
  clear hb2
  cases hv : validL l with
  | false =>
    have HE := Lib.hid (show G = [] by rw [← HG.out]; exact missL_no (.inl hv))
    clear hv
    go_wp2
    go_ret
    exact OutI.nil HB2.out HE.out
  | true =>
    have HV := Lib.hid hv
    have HOK := Lib.hid (validL_iff.1 hv).2.2
    have hl64 := (validL_iff.1 hv).1
    clear hv
    cases K with
    | false =>
      have HE := Lib.hid (show G = [] by rw [← HG.out]; exact missL_no (.inr (.inl (by rw [← knownF_has HOK.out, HK.out]))))
      go_wp2
      go_ret
      exact OutI.nil HB2.out HE.out
    | true =>
      have HHAS := Lib.hid (show hasF l f = true by rw [← knownF_has HOK.out, HK.out])
      obtain ⟨hTl, _⟩ := (cut_has HOK.out (cutF HOK.out)).1.1 HHAS.out
      have HBX := Lib.hid (show ofF l f = getB l T by rw [(cut_has HOK.out (cutF HOK.out)).2 HHAS.out, HT.out])
      rw [HT.out] at hTl
      have HVB := Lib.hid (of_at HOK.out hTl).2.2.2
      obtain ⟨g, off, hgo, oo, cp, hw1, hw2, hms, c0, c1, c2⟩ := (HR.out.later HB2.out) T hTl
      subst hgo
      obtain ⟨x, hx⟩ : ∃ x, getB l T = x := ⟨_, rfl⟩
      rw [hx] at c0 c1 c2 hw1 hw2 hms HBX HVB
      have HMS := Lib.hid hms
      clear hx hms
      have y1 : (0 : Int) ≤ (T : Int) := by omega
      have y2 : (T : Int) < (l.length : Int) := by omega
      by_cases h0 : x.ws.length = 0
      · have HE := Lib.hid (show G = [] by rw [← HG.out]; exact missL_no (.inr (.inr (by rw [HBX.out]; exact List.eq_nil_of_length_eq_zero h0))))
        have h0i : (x.ws.length : Int) = 0 := by omega
        go_wp2
        go_ret
        exact OutI.nil HB2.out HE.out
      · have h0b : ((x.ws.length : Int) == 0) = false := by rw [beq_eq_false_iff_ne]; omega
        have HVX := Lib.hid (validB_iff.1 HVB.out)
        have HGG := Lib.hid (show G = (gaps x.x x.ws).take 64 by rw [← HG.out, missL_yes HV.out HHAS.out, HBX.out])
        have hxx : 1 ≤ x.x ∧ x.x ≤ 1000001 := HVX.out.2.1
        clear h0
        go_wp2
        have HS0 := Lib.hid (show MissSt w2 w2 (gaps x.x x.ws) (.slice none 0 0) [] (gaps x.x x.ws) 0 from ⟨Row.nil _ _ _, rfl, by omega, rfl⟩)
        go_loopw [7, 8, 44] (fun v z i wr => ∃ (j n : Nat) (q : Int) (acc : List Int), j ≤ x.ws.length ∧ i = .int .i64 j ∧ z = .int .i64 q ∧ (1 ≤ q ∧ q ≤ 1000001) ∧ MissSt w2 wr (gaps x.x x.ws) v acc (gaps q (x.ws.drop j)) n) (fun _ _ i _ => x.ws.length - (intOf i).toNat)
        case atStart => exact ⟨0, 0, x.x, [], Nat.zero_le _, rfl, rfl, hxx, HS0.out⟩
        case round =>
          obtain ⟨j, n, q, acc, hj, rfl, rfl, hq, hst⟩ := hrel
          have HST := Lib.hid hst
          have HBW := Lib.hid hst.row.below
          clear hst HS0 h0b
          clear c0 c1 c2
          by_cases hlt : j < x.ws.length
          · obtain ⟨h, oh, hho, m0, m1, m2⟩ := (HMS.out.later HBW.out) j hlt
            subst hho
            have HVM := Lib.hid (waits_valid HVX.out.2.2 hlt)
            have HD := Lib.hid (dropM hlt)
            obtain ⟨m, hm⟩ : ∃ m, getM x.ws j = m := ⟨_, rfl⟩
            rw [hm] at m0 m1 m2 HVM HD
            clear hm
            have hmn := (validM_iff.1 HVM.out).2.1
            have z1 : (0 : Int) ≤ (j : Int) := by omega
            have z2 : (j : Int) < (x.ws.length : Int) := by omega
            go_wp2
            clear m0 m1 m2
            have HBX2 := Lib.hid (Box3.new wr 24 (.int .i64 m.f) (.int .i64 m.n) (.int .i64 m.b))
            have HS1 := Lib.hid (show MissSt w2 (wr.alloc (.cells #[.int .i64 m.f, .int .i64 m.n, .int .i64 m.b] 24)) (gaps x.x x.ws) u7 acc (up q (m.n - q).toNat ++ gaps (m.n + 1) (x.ws.drop (j + 1))) n from HST.out.later (below_alloc (Below.refl _ _) _) (by rw [HD.out]; rfl))
            obtain ⟨B, hB⟩ : ∃ B, wr.heap.size = B := ⟨_, rfl⟩
            have hne0 : u7.ownBlock ≠ some B := fun e => by
              have := (HST.out.row.own.lt B e).2
              omega
            have m1 := HBX2.out.c1
            obtain ⟨W, hW⟩ : ∃ W : World, W = wr.alloc (.cells #[.int .i64 m.f, .int .i64 m.n, .int .i64 m.b] 24) := ⟨_, rfl⟩
            rw [← hW] at HS1 m1 ⊢
            have hBs : B < W.heap.size := by rw [hW, World.size_alloc]; omega
            clear hW
            rw [hB] at m1 ⊢
            clear HBX2 hB
            have HM1 := Lib.hid m1
            clear m1
            go_loopw [7, 8] (fun v z wr => ∃ (n : Nat) (q : Int) (acc : List Int), z = .int .i64 q ∧ (1 ≤ q ∧ q ≤ 1000001) ∧ v.ownBlock ≠ some B ∧ B < wr.heap.size ∧ wr.cell? ⟨B, 1, none⟩ = some (.int .i64 m.n) ∧ MissSt w2 wr (gaps x.x x.ws) v acc (up q (m.n - q).toNat ++ gaps (m.n + 1) (x.ws.drop (j + 1))) n) (fun _ z _ => (m.n - intOf z).toNat)
            case atStart => exact ⟨n, q, acc, rfl, hq, hne0, hBs, HM1.out, HS1.out⟩
            case round =>
              obtain ⟨n, q, acc, rfl, hq, hne, hBl, m1, hst⟩ := hrel
              have HST2 := Lib.hid hst
              have HNE := Lib.hid hne
              have HMM := Lib.hid m1
              have hn64 := hst.le
              clear hst HS1 hne hne0 HM1
              by_cases hlq : q < m.n
              · by_cases h64 : n = 64
                · have HFU := Lib.hid (show G = acc by rw [HGG.out]; exact HST2.out.full h64)
                  obtain ⟨ov, cv, hvs, _⟩ := HST2.out.row.shape
                  subst hvs
                  subst h64
                  go_wp2
                  go_ret
                  exact OutI.of (HST2.out.row.rebase HB2.out) HST2.out.len HFU.out
                · have h64b : ((n : Int) == 64) = false := by rw [beq_eq_false_iff_ne]; omega
                  obtain ⟨ov, cv, hvs, _⟩ := HST2.out.row.shape
                  subst hvs
                  have HUP := Lib.hid (up_step hlq)
                  have HN := Lib.hid (show n + 1 ≤ 1000000000 by omega)
                  go_wp2_with (at_builtin; refine wp_append1R (news := [.int .i64 q]) elemI HST2.out.row HN.out (by decide) rfl (oneI q) rfl _ _ rfl rfl rfl rfl ?_)
                  clear m1
                  intro v2 w4 hr2 hgr hat
                  have HS2 := Lib.hid (HST2.out.app (x := q) (rest' := up (q + 1) (m.n - (q + 1)).toNat ++ gaps (m.n + 1) (x.ws.drop (j + 1))) (by rw [HUP.out]; rfl) (by omega) hr2)
                  have HM4 := Lib.hid (show w4.cell? ⟨B, 1, none⟩ = some (.int .i64 m.n) from by
                    have hk := hgr.block B (by rw [World.size_alloc]; omega) (fun e => HNE.out e.symm)
                    exact (World.cell?_of_block (a := ⟨B, 1, none⟩) hk).trans (cell_kept (below_alloc (Below.refl _ _) _) HMM.out))
                  have HNE4 := Lib.hid (show v2.ownBlock ≠ some B from fun e => by
                    rcases hat with h1 | h1
                    · exact HNE.out (h1.symm.trans e)
                    · rw [h1] at e
                      injection e with e
                      omega)
                  have hB4 : B < w4.heap.size := by have := hgr.size; rw [World.size_alloc] at this; omega
                  clear hr2 hgr hat
                  go_wp2
                  go_roundw
                  case rel => exact ⟨n + 1, q + 1, acc ++ [q], rfl, by omega, HNE4.out, hB4, HM4.out, HS2.out⟩
                  case measure => simp [intOf]; omega
              · have HUP := Lib.hid (up_end hlq)
                have HS2 := Lib.hid (HST2.out.later (Below.refl _ _) (rest' := gaps (m.n + 1) (x.ws.drop (j + 1))) (by rw [HUP.out]; rfl))
                go_wp2
                go_roundw
                case rel => exact ⟨j + 1, n, m.n + 1, acc, by omega, by go_num, rfl, by omega, HS2.out⟩
                case measure => simp [intOf]; omega
          · obtain rfl : j = x.ws.length := by omega
            have HFI := Lib.hid (show G = acc by rw [HGG.out]; exact HST.out.done (by rw [List.drop_length]; rfl))
            go_wp2
            go_ret
            exact OutI.of (HST.out.row.rebase HB2.out) HST.out.len HFI.out
end Go.Proofs.Ytehpdjlidmhkmaa
