/- Chapter 39: HubOnce. -/
import Derived.Test.YtehpdjlidmhkmaaWu39
import Derived.Test.YtehpdjlidmhkmaaOnce39
import Derived.BigQuiet
namespace Go.Proofs.Ytehpdjlidmhkmaa
open Go.RowKit
attribute [local go_sem] Oper.semAt_some

theorem cntF_take {l : List Msg} {i : Nat} (h : i < l.length) (f : Int) : cntF (l.take (i + 1)) f = cntF (l.take i) f + if (getM l i).f = f then 1 else 0 := by
  rw [List.take_succ_eq_append_getElem h, cntF_append]
  have : l[i] = getM l i := by simp [getM, h]
  rw [this]
  unfold cntF
  by_cases e : (getM l i).f = f <;> simp [e]
theorem cntF_take_le (l : List Msg) (i : Nat) (f : Int) : cntF (l.take i) f ≤ l.length := by
  have h1 := cntF_le (l.take i) f
  rw [List.length_take] at h1
  omega
theorem take_snoc39 {l : List Msg} {i : Nat} (h : i < l.length) : l.take (i + 1) = l.take i ++ [getM l i] := by
  rw [List.take_succ_eq_append_getElem h]
  simp [getM, h]
/-- The loop of HubOnce. -/
def OnceRel (W : World) (N : Nat) (up bx tk ovr i : Value) (wr : World) : Prop :=
  ∃ (k : Nat) (oB : Option Addr) (cB : Nat) (lB : List Bx) (T O : List Msg), k ≤ N ∧ i = .int .i64 k ∧ up = .bool true ∧ bx = .slice oB lB.length cB ∧ lB.length ≤ 64 ∧ OnceAt lB T O ∧ OnSt W wr tk ovr T O oB lB none [] ∧ T.length ≤ k ∧ O.length ≤ 66 * k
/-- The loop over what is handed over. -/
def OvrRel (W : World) (vT : Value) (T O : List Msg) (oa : Option Addr) (LA : List Bx) (ox : Option Addr) (LX : List Msg) (ovr j : Value) (wr : World) : Prop :=
  ∃ i : Nat, i ≤ LX.length ∧ j = .int .i64 i ∧ OnSt W wr vT ovr T (O ++ LX.take i) oa LA ox LX
/-- The loop over what was handed over. -/
def CntRel (W : World) (O : List Msg) (f : Int) (c j : Value) (wr : World) : Prop :=
  ∃ n : Nat, n ≤ O.length ∧ c = .int .i64 (1 + (cntF (O.take n) f : Nat)) ∧ j = .int .i64 n ∧ Below W.heap.size W wr
/-- The loop over what was taken. -/
def FstRel (W : World) (q : Nat) (c j : Value) (wr : World) : Prop :=
  ∃ n : Nat, n ≤ q + 1 ∧ j = .int .i64 n ∧ (n ≤ q → c = .int .i64 (-1)) ∧ (¬ n ≤ q → c = .int .i64 q) ∧ Below W.heap.size W wr
theorem oneM (m : Msg) : ∀ u ∈ [Value.int .i64 m.f, .int .i64 m.n, .int .i64 m.b], u.oneCell' = true := fun u hu => by simp at hu; rcases hu with rfl | rfl | rfl <;> rfl

set_option maxRecDepth 100000 in
set_option maxHeartbeats 32000000 in
theorem once_walk (o : Option Addr) (cap : Nat) (l : List Msg) (w : World) (hr : Msgs w o l) (hl : l.length ≤ 9223372036854775807) : Calls Try.prog 4 #[.slice o l.length cap] w (Ret (.bool true) w) := by
  have HR := Lib.hid hr
  clear hr
  go_enter Try.func4, Try.ntmps4
  go_wp2_with fail
  refine (head_any _).mono ?_
  rintro e x1 ⟨rfl, hb⟩
  have HW := Lib.hid hb
  clear hb
  by_cases h150 : 150 < l.length
  · have hd : decide ((150 : Int) < (l.length : Int)) = true := by rw [decide_eq_true_eq]; omega
    go_wp2
    go_ret
    exact ⟨rfl, HW.out⟩
  have hd : decide ((150 : Int) < (l.length : Int)) = false := by rw [decide_eq_false_iff_not]; omega
  go_wp2
  clear hd
  have HS0 := Lib.hid (OnSt.start x1 none)
  go_loopw [3, 4, 5, 6, 7] (OnceRel x1 l.length) (fun _ _ _ _ i _ => l.length - (intOf i).toNat)
  case atStart => exact ⟨0, none, 0, [], [], [], Nat.zero_le _, rfl, rfl, rfl, by simp, OnceAt.start, HS0.out, by simp, by simp⟩
  case round =>
    obtain ⟨k, oB, cB, lB, T, O, hk, rfl, rfl, rfl, hlB, hat, hst, hTk, hOk⟩ := hrel
    clear HS0
    have HAT := Lib.hid hat
    obtain ⟨oT, cT, rfl, _⟩ := hst.rt.shape
    obtain ⟨oO, cO, rfl, _⟩ := hst.ro.shape
    have HST := Lib.hid hst
    clear hat hst
    by_cases hlt : k < l.length
    · obtain ⟨g, off, hgo, c0, c1, c2⟩ := (HR.out.later (below_step HW.out HST.out.rt.below)) k hlt
      subst hgo
      obtain ⟨m, hm⟩ : ∃ m, getM l k = m := ⟨_, rfl⟩
      rw [hm] at c0 c1 c2
      clear hm
      have z1 : (0 : Int) ≤ (k : Int) := by omega
      have z2 : (k : Int) < (l.length : Int) := by omega
      go_wp2_with fail
      have HC0 := Lib.hid c0
      have HC1 := Lib.hid c1
      have HC2 := Lib.hid c2
      clear c0 c1 c2
      refine (Receive_new oB cB lB m wr HST.out.bt.bxs (by omega)).mono ?_
      rintro e x4 ⟨hb, oa, ox, ca, cx, rfl, hx, hy, hz⟩
      have HSN := Lib.hid (HST.out.recv hb hx hy hz)
      replace HST := Lib.hid (HST.out.later hb)
      have c0 := cell_kept hb HC0.out
      have c1 := cell_kept hb HC1.out
      have c2 := cell_kept hb HC2.out
      clear hb hx hy hz HC0 HC1 HC2
      have hla := outL_le lB m
      have hlx := outM_le lB m
      obtain ⟨LA, hLA⟩ : ∃ L, outL lB m = L := ⟨_, rfl⟩
      obtain ⟨LX, hLX⟩ : ∃ L, outM lB m = L := ⟨_, rfl⟩
      obtain ⟨E, hE⟩ : ∃ E, recvE lB m = E := ⟨_, rfl⟩
      have HLA := Lib.hid hLA
      have HLX := Lib.hid hLX
      have HE := Lib.hid hE
      rw [hLA, hLX] at HSN
      rw [hLA] at hla
      rw [hLX] at hlx
      rw [hLA, hLX, hE]
      clear hLA hLX hE
      by_cases hE0 : E = 0
      rotate_left
      · have hEb : (E != 0) = true := by simpa using hE0
        clear hE0 c0 c1 c2
        go_wp2
        go_roundw
        case rel => exact ⟨k + 1, oB, cB, lB, T, O, by omega, by go_num, rfl, rfl, hlB, HAT.out, HST.out, by omega, by omega⟩
        case measure => simp [intOf]; omega
      subst hE0
      have HTK := Lib.hid (took HE.out)
      have HLA2 := Lib.hid (show LA = recvL lB m by rw [← HLA.out, outL_zero HE.out])
      have HLX2 := Lib.hid (show LX = overOf lB m by rw [← HLX.out, outM_zero HE.out])
      have HNX := Lib.hid (show OnceAt LA (T ++ [m]) (O ++ LX) by rw [HLA2.out, HLX2.out]; exact HAT.out.step HTK.out)
      have HEA := Lib.hid (fun (i : Nat) (hi : i < LX.length) => show Fst (T ++ [m]) (getM LX i) ∧ (getM LX i).n = 1 + (cntF (O ++ LX.take i) (getM LX i).f : Nat) by
        have hi' : i < (overOf lB m).length := by rw [← HLX2.out]; exact hi
        rw [HLX2.out]
        exact HAT.out.each HTK.out hi')
      have hla64 := (validL_iff.1 HNX.out.valid).1
      have hlx65 : LX.length ≤ 65 := by
        have h1 := HTK.out.many
        have h2 := (validL_iff.1 HTK.out.vl).2.1
        rw [HLX2.out]
        omega
      clear HLA2 HLX2 HLA HLX HAT HTK HST HE hla hlx
      have HN1 := Lib.hid (show T.length + 1 ≤ 1000000000 by omega)
      have HOM := Lib.hid (oneM m)
      go_wp2_with (at_builtin; refine wp_append1R (news := [.int .i64 m.f, .int .i64 m.n, .int .i64 m.b]) elemM HSN.out.rt HN1.out (by decide) rfl HOM.out rfl _ _ rfl rfl rfl rfl ?_)
      clear c0 c1 c2 HOM HN1
      intro v3 w3 hrow3 hgr hat
      have HS3 := Lib.hid (HSN.out.pushT (m := m) (below_alloc (Below.refl _ _) _) hrow3 hgr (by rw [World.size_alloc]; exact hat))
      clear hrow3 hgr hat HSN
      obtain ⟨T2, hT2⟩ : ∃ t, T ++ [m] = t := ⟨_, rfl⟩
      have hT2l : T2.length ≤ k + 1 := by rw [← hT2]; simp; omega
      rw [hT2] at HS3 HNX HEA
      clear hT2
      obtain ⟨oT2, cT2, rfl, _⟩ := HS3.out.rt.shape
      have HS3' := Lib.hid (show OnSt x1 w3 (.slice oT2 T2.length cT2) (.slice oO O.length cO) T2 (O ++ LX.take 0) oa LA ox LX from by rw [List.take_zero, List.append_nil]; exact HS3.out)
      clear HS3
      go_wp2
      go_loopw [6, 11] (OvrRel x1 (.slice oT2 T2.length cT2) T2 O oa LA ox LX) (fun _ j _ => LX.length - (intOf j).toNat)
      case atStart => exact ⟨0, Nat.zero_le _, rfl, HS3'.out⟩
      case round =>
        obtain ⟨i, hi, rfl, hst⟩ := hrel
        obtain ⟨wA, rfl⟩ : ∃ wA : World, wA = wr := ⟨_, rfl⟩
        clear HS3'
        obtain ⟨oO2, cO2, hvo, _⟩ := hst.ro.shape
        subst hvo
        have HST := Lib.hid hst
        clear hst
        by_cases hj : i < LX.length
        · have HTA := Lib.hid (take_snoc39 hj)
          obtain ⟨hf1, hf2⟩ := HEA.out i hj
          have hO2l : (O ++ LX.take i).length ≤ 10000 := by rw [List.length_append, List.length_take]; omega
          have HO2 := Lib.hid (show O ++ LX.take (i + 1) = (O ++ LX.take i) ++ [getM LX i] by rw [HTA.out, List.append_assoc])
          obtain ⟨O2, hO2⟩ : ∃ t, O ++ LX.take i = t := ⟨_, rfl⟩
          rw [hO2] at HST HO2 hO2l hf2
          rw [hO2]
          clear hO2 HTA
          obtain ⟨h, oh, hho, d0, d1, d2⟩ := HST.out.mt.1 i hj
          subst hho
          have HD := Lib.hid (fun (w' : World) (hb' : Below wA.heap.size wA w') => show w'.cell? ⟨h, oh + i * 3, none⟩ = some (.int .i64 (getM LX i).f) ∧ w'.cell? ⟨h, oh + i * 3 + 1, none⟩ = some (.int .i64 (getM LX i).n) ∧ w'.cell? ⟨h, oh + i * 3 + 2, none⟩ = some (.int .i64 (getM LX i).b) from ⟨cell_kept hb' d0, cell_kept hb' d1, cell_kept hb' d2⟩)
          clear d0 d1 d2
          obtain ⟨u, hu⟩ : ∃ u, getM LX i = u := ⟨_, rfl⟩
          rw [hu] at HD HO2 hf1 hf2
          clear hu
          obtain ⟨q, hq, hqe, hqn⟩ := hf1
          have HQE := Lib.hid hqe
          have HQN := Lib.hid hqn
          have HF2 := Lib.hid hf2
          clear hqe hqn hf2
          have y1 : (0 : Int) ≤ (i : Int) := by omega
          have y2 : (i : Int) < (LX.length : Int) := by omega
          go_wp2
          go_loopw [12, 13] (CntRel wA O2 u.f) (fun _ j _ => O2.length - (intOf j).toNat)
          case atStart => exact ⟨0, Nat.zero_le _, rfl, rfl, Below.refl _ _⟩
          case round =>
            obtain ⟨n, hn, rfl, rfl, hb⟩ := hrel
            obtain ⟨wB, rfl⟩ : ∃ wB : World, wB = wr := ⟨_, rfl⟩
            have HB := Lib.hid hb
            clear hb
            have hcl := cntF_take_le O2 n u.f
            by_cases hn2 : n < O2.length
            · have HCT := Lib.hid (cntF_take hn2 u.f)
              obtain ⟨C, hC⟩ : ∃ C, cntF (O2.take n) u.f = C := ⟨_, rfl⟩
              rw [hC] at HCT hcl
              rw [hC]
              clear hC
              obtain ⟨ge, fe, hge, e0, e1, e2⟩ := (HST.out.ro.later HB.out).msgs n hn2
              subst hge
              clear e1 e2
              obtain ⟨d0, d1, d2⟩ := HD.out _ HB.out
              clear d1 d2
              obtain ⟨t, ht⟩ : ∃ t, getM O2 n = t := ⟨_, rfl⟩
              rw [ht] at e0 HCT
              clear ht
              have y3 : (0 : Int) ≤ (n : Int) := by omega
              have y4 : (n : Int) < (O2.length : Int) := by omega
              by_cases hte : t.f = u.f
              · have hd : (t.f == u.f) = true := by simpa using hte
                have HC2 := Lib.hid (show cntF (O2.take (n + 1)) u.f = C + 1 by rw [HCT.out, if_pos hte])
                clear hte
                go_wp2_with fail
                go_quiet (fail)
                go_wp2
                go_roundw
                case rel => exact ⟨n + 1, by omega, by rw [HC2.out]; go_num, by go_num, below_step HB.out (below_drewN (Below.refl _ _) _)⟩
                case measure => simp [intOf]; omega
              · have hd : (t.f == u.f) = false := by simpa using hte
                have HC2 := Lib.hid (show cntF (O2.take (n + 1)) u.f = C by rw [HCT.out, if_neg hte, Nat.add_zero])
                clear hte
                go_wp2_with fail
                go_quiet (fail)
                go_wp2
                go_roundw
                case rel => exact ⟨n + 1, by omega, by rw [HC2.out], by go_num, below_step HB.out (below_drewN (Below.refl _ _) _)⟩
                case measure => simp [intOf]; omega
            · obtain rfl : n = O2.length := by omega
              have HUN := Lib.hid (show (1 + ((cntF (O2.take O2.length) u.f : Nat) : Int)) = u.n by rw [List.take_length]; exact HF2.out.symm)
              rw [HUN.out]
              clear hcl
              have hq2 : q + 1 ≤ T2.length := hq
              go_wp2
              go_loopw [14, 15] (FstRel wA q) (fun _ j _ => T2.length + 1 - (intOf j).toNat)
              case atStart => exact ⟨0, Nat.zero_le _, rfl, fun _ => rfl, fun h => absurd (Nat.zero_le q) h, HB.out⟩
              case round =>
                obtain ⟨n, hn, rfl, h1, h2, hb⟩ := hrel
                obtain ⟨wC, rfl⟩ : ∃ wC : World, wC = wr := ⟨_, rfl⟩
                have HB2 := Lib.hid hb
                clear hb HB
                obtain ⟨d0, d1, d2⟩ := HD.out _ HB2.out
                by_cases hnq : n ≤ q
                · obtain rfl := h1 hnq
                  clear h1 h2 d2
                  obtain ⟨ge, fe, hge, e0, e1, e2⟩ := (HST.out.rt.later HB2.out).msgs n (by omega)
                  subst hge
                  clear e2
                  obtain ⟨t, ht⟩ : ∃ t, getM T2 n = t := ⟨_, rfl⟩
                  rw [ht] at e0 e1
                  have HT := Lib.hid ht
                  clear ht
                  have y3 : (0 : Int) ≤ (n : Int) := by omega
                  have y4 : (n : Int) < (T2.length : Int) := by omega
                  by_cases hnq2 : n = q
                  · subst hnq2
                    obtain rfl : t = u := by rw [← HT.out, HQE.out]
                    have hd1 : (t.f == t.f) = true := by simp
                    have hd2 : (t.n == t.n) = true := by simp
                    go_wp2_with fail
                    go_quiet (fail)
                    go_wp2
                    go_roundw
                    case rel => exact ⟨n + 1, by omega, by go_num, fun h => absurd h (by omega), fun _ => rfl, below_step HB2.out (below_drewN (Below.refl _ _) _)⟩
                    case measure => simp [intOf]; omega
                  · have HNE := Lib.hid (HQN.out n (by omega))
                    rw [HT.out] at HNE
                    by_cases hte : t.f = u.f
                    · have hd1 : (t.f == u.f) = true := by simpa using hte
                      have hd2 : (t.n == u.n) = false := by simpa using fun e => HNE.out ⟨hte, e⟩
                      clear hte
                      go_wp2_with fail
                      go_quiet (fail)
                      go_wp2
                      go_roundw
                      case rel => exact ⟨n + 1, by omega, by go_num, fun _ => rfl, fun h => absurd h (by omega), below_step HB2.out (below_drewN (Below.refl _ _) _)⟩
                      case measure => simp [intOf]; omega
                    · have hd1 : (t.f == u.f) = false := by simpa using hte
                      clear hte
                      go_wp2_with fail
                      go_quiet (fail)
                      go_wp2
                      go_roundw
                      case rel => exact ⟨n + 1, by omega, by go_num, fun _ => rfl, fun h => absurd h (by omega), below_step HB2.out (below_drewN (Below.refl _ _) _)⟩
                      case measure => simp [intOf]; omega
                · obtain rfl := h2 hnq
                  obtain rfl : n = q + 1 := by omega
                  clear h1 h2 hnq hn
                  obtain ⟨ge, fe, hge, e0, e1, e2⟩ := (HST.out.rt.later HB2.out).msgs q hq
                  subst hge
                  rw [HQE.out] at e0 e1 e2
                  have y3 : (0 : Int) ≤ (q : Int) := by omega
                  have y4 : (q : Int) < (T2.length : Int) := by omega
                  have hdq : decide ((q : Int) < 0) = false := decide_eq_false (by omega)
                  have hdn : (u.n != u.n) = false := by simp
                  have HN1 := Lib.hid (show O2.length + 1 ≤ 1000000000 by omega)
                  have HOM := Lib.hid (oneM u)
                  by_cases hlast : q + 1 < T2.length
                  · have hd29 : decide ((q : Int) + 1 < (T2.length : Int)) = true := decide_eq_true (by omega)
                    go_upto_region 29 with (fail)
                    go_quiet (fail)
                    clear hd29 hdq hdn e0 e1 e2 d0 d1 d2
                    have HB3 := Lib.hid (below_step HB2.out (below_drewN (Below.refl wC.heap.size wC) nq))
                    obtain ⟨W9, hW9⟩ : ∃ W9, W9 = wC.drewN nq := ⟨_, rfl⟩
                    rw [← hW9] at HB3 ⊢
                    clear hW9 HB2
                    have HS9 := Lib.hid (HST.out.later HB3.out)
                    obtain ⟨d0, d1, d2⟩ := HD.out _ HB3.out
                    go_wp2_with (at_builtin; refine wp_append1R (news := [.int .i64 u.f, .int .i64 u.n, .int .i64 u.b]) elemM HS9.out.ro HN1.out (by decide) rfl HOM.out rfl _ _ rfl rfl rfl rfl ?_)
                    clear d0 d1 d2 HOM HN1
                    intro v5 w5 hrow5 hgr hat
                    have HS5 := Lib.hid (HS9.out.pushO (m := u) (below_alloc (Below.refl _ _) _) hrow5 hgr (by rw [World.size_alloc]; exact hat))
                    rw [← HO2.out] at HS5
                    clear hrow5 hgr hat HS9 HST HB3
                    go_wp2
                    go_roundw
                    case rel => exact ⟨i + 1, by omega, by go_num, HS5.out⟩
                    case measure => simp [intOf]; omega
                  · have hd29 : decide ((q : Int) + 1 < (T2.length : Int)) = false := decide_eq_false (by omega)
                    go_upto_region 29 with (fail)
                    go_quiet (fail)
                    clear hd29 hdq hdn e0 e1 e2 d0 d1 d2
                    have HB3 := Lib.hid (below_step HB2.out (below_drewN (Below.refl wC.heap.size wC) nq))
                    obtain ⟨W9, hW9⟩ : ∃ W9, W9 = wC.drewN nq := ⟨_, rfl⟩
                    rw [← hW9] at HB3 ⊢
                    clear hW9 HB2
                    have HS9 := Lib.hid (HST.out.later HB3.out)
                    obtain ⟨d0, d1, d2⟩ := HD.out _ HB3.out
                    go_wp2_with (at_builtin; refine wp_append1R (news := [.int .i64 u.f, .int .i64 u.n, .int .i64 u.b]) elemM HS9.out.ro HN1.out (by decide) rfl HOM.out rfl _ _ rfl rfl rfl rfl ?_)
                    clear d0 d1 d2 HOM HN1
                    intro v5 w5 hrow5 hgr hat
                    have HS5 := Lib.hid (HS9.out.pushO (m := u) (below_alloc (Below.refl _ _) _) hrow5 hgr (by rw [World.size_alloc]; exact hat))
                    rw [← HO2.out] at HS5
                    clear hrow5 hgr hat HS9 HST HB3
                    go_wp2
                    go_roundw
                    case rel => exact ⟨i + 1, by omega, by go_num, HS5.out⟩
                    case measure => simp [intOf]; omega
        · obtain rfl : i = LX.length := by omega
          rw [List.take_length] at HST ⊢
          have hO3l : (O ++ LX).length ≤ 66 * (k + 1) := by rw [List.length_append]; omega
          obtain ⟨O3, hO3⟩ : ∃ t, O ++ LX = t := ⟨_, rfl⟩
          rw [hO3] at HST HNX hO3l ⊢
          clear hO3
          go_wp2_with fail
          refine (refValid_any oa ca LA wA HST.out.bt.bxs (by omega)).mono ?_
          rintro e x6 ⟨rfl, hb⟩
          have HS6 := Lib.hid (HST.out.later hb).forget
          clear hb HST
          rw [HNX.out.valid]
          go_wp2
          go_roundw
          case rel => exact ⟨k + 1, oa, ca, LA, T2, O3, by omega, by go_num, rfl, rfl, hla64, HNX.out, HS6.out, hT2l, hO3l⟩
          case measure => simp [intOf]; omega
    · obtain rfl : k = l.length := by omega
      go_wp2
      go_ret
      exact ⟨rfl, below_step HW.out HST.out.rt.below⟩
end Go.Proofs.Ytehpdjlidmhkmaa