/- Chapter 22: the closure of Share. -/
import Derived.Test.YtjaeekikddbbeaaWg22
namespace Go.Proofs.Ytjaeekikddbbeaa
open Go.RowKit
attribute [local go_sem] Oper.semAt_some

/-- What the closure of Share finds in memory and leaves as it is. -/
structure Sta (w : World) (S : List Nat) (ax am ai al gx gi gl : Nat) (om : Option Addr) (cm : Nat) (rows : List Rw) (most : List Int) : Prop where
  cx : w.cell? ⟨ax, 0, none⟩ = some (.slice (some ⟨gx, 0, none⟩) most.length most.length)
  cmo : w.cell? ⟨am, 0, none⟩ = some (.slice om most.length cm)
  ci : w.cell? ⟨ai, 0, none⟩ = some (.slice (some ⟨gi, 0, none⟩) most.length most.length)
  cl : w.cell? ⟨al, 0, none⟩ = some (.slice (some ⟨gl, 0, none⟩) rows.length rows.length)
  nx : ax ∉ S
  nm : am ∉ S
  ni : ai ∉ S
  nl : al ∉ S
  ng : gi ∉ S
  mo : IntsS S w om most
  inn : ∀ i, i < most.length → ∃ (oo : Option Addr) (cp : Nat), w.cell? ⟨gi, i, none⟩ = some (.slice oo (inOf rows (i : Int)).length cp) ∧ IntsS S w oo (inOf rows (i : Int))
theorem Sta.agr {w w' : World} {S S' : List Nat} {ax am ai al gx gi gl : Nat} {om : Option Addr} {cm : Nat} {rows : List Rw} {most : List Int} (h : Sta w S ax am ai al gx gi gl om cm rows most) (ha : Agr w w' S') (hs : ∀ b ∈ S', b ∈ S) : Sta w' S ax am ai al gx gi gl om cm rows most :=
  ⟨ha.cell h.cx (fun h' => h.nx (hs _ h')), ha.cell h.cmo (fun h' => h.nm (hs _ h')), ha.cell h.ci (fun h' => h.ni (hs _ h')), ha.cell h.cl (fun h' => h.nl (hs _ h')), h.nx, h.nm, h.ni, h.nl, h.ng, h.mo.agr ha hs, fun i hi => by
    obtain ⟨oo, cp, h1, h2⟩ := h.inn i hi
    exact ⟨oo, cp, ha.cell h1 (fun h' => h.ng (hs _ h')), h2.agr ha hs⟩⟩

def RiseOut (gx gl : Nat) (rows : List Rw) (most x : List Int) (m : Int) (w : World) (e : Ending) (w' : World) : Prop :=
  e = .returned (.bool (can rows most x m)) ∧ Agr w w' [gx, gl] ∧ Blk w' gx 3 (intsC (if can rows most x m = true then inc x m else x)) ∧ Blk w' gl 3 (intsC (lefts rows (if can rows most x m = true then inc x m else x)))
theorem RiseOut.no {gx gl : Nat} {rows : List Rw} {most x : List Int} {m : Int} {w w' : World} (h : can rows most x m = false) (ha : Agr w w' [gx, gl]) (hx : Blk w' gx 3 (intsC x)) (hl : Blk w' gl 3 (intsC (lefts rows x))) : RiseOut gx gl rows most x m w (.returned (.bool false)) w' := by
  unfold RiseOut
  rw [h]
  exact ⟨rfl, ha, hx, hl⟩
theorem RiseOut.yes {gx gl : Nat} {rows : List Rw} {most x : List Int} {m : Int} {w w' : World} (h : can rows most x m = true) (ha : Agr w w' [gx, gl]) (hx : Blk w' gx 3 (intsC (inc x m))) (hl : Blk w' gl 3 (intsC (lefts rows (inc x m)))) : RiseOut gx gl rows most x m w (.returned (.bool true)) w' := by
  unfold RiseOut
  rw [h]
  exact ⟨rfl, ha, hx, hl⟩
theorem takeI {l : List Int} {k : Nat} (h : k < l.length) : l.take (k + 1) = l.take k ++ [l.getD k 0] := by
  rw [List.take_succ_eq_append_getElem h]
  simp [h]

set_option maxRecDepth 100000 in
set_option maxHeartbeats 8000000 in
theorem rises_any (S : List Nat) (ax am ai al gx gi gl : Nat) (om : Option Addr) (cm : Nat) (rows : List Rw) (most x : List Int) (m : Nat) (w : World) (hs : Sta w S ax am ai al gx gi gl om cm rows most) (hgx : gx ∈ S) (hgl : gl ∈ S) (hne : gx ≠ gl)
    (hbx : Blk w gx 3 (intsC x)) (hbl : Blk w gl 3 (intsC (lefts rows x))) (hf : Fit rows most x) (hm : m < most.length) :
    Calls Try.prog 23 #[.int .i64 (m : Nat), .pointer (some ⟨ax, 0, none⟩), .pointer (some ⟨am, 0, none⟩), .pointer (some ⟨ai, 0, none⟩), .pointer (some ⟨al, 0, none⟩)] w (RiseOut gx gl rows most x (m : Nat) w) := by
  have HS := Lib.hid hs
  have HBX := Lib.hid hbx
  have HBL := Lib.hid hbl
  have HF := Lib.hid hf
  have hn64 := hf.vl.n64
  have hr64 := hf.vl.r64
  have hxl : m < x.length := by rw [hf.len]; exact hm
  have hlimx := hf.lim (m : Int) (by omega) (by omega)
  have hlimm := hf.vl.lim _ (atI_mem (x := most) (m := (m : Int)) ⟨by omega, by omega⟩)
  have HXX := Lib.hid (show x.getD m 0 = atI x (m : Int) by simp [atI])
  have HMM := Lib.hid (show most.getD m 0 = atI most (m : Int) by simp [atI])
  obtain ⟨bo, off, hom, hbo, e0⟩ := hs.mo m hm
  subst hom
  rw [HMM.out] at e0
  have b0 := hs.cx
  have b1 := hs.cmo
  have d0 : w.cell? ⟨gx, m, none⟩ = some (.int .i64 (atI x (m : Int))) := by rw [← HXX.out]; exact (hbx.cell m).trans (intsC_get hxl)
  have HSUB := Lib.hid (show ∀ b ∈ [gx, gl], b ∈ S from fun b hb => by simp at hb; rcases hb with rfl | rfl; exact hgx; exact hgl)
  clear hs hbx hbl hf hbo
  obtain ⟨q, hq⟩ : ∃ q, atI x (m : Int) = q := ⟨_, rfl⟩
  obtain ⟨s, hs⟩ : ∃ s, atI most (m : Int) = s := ⟨_, rfl⟩
  have HQ := Lib.hid hq
  have HSS := Lib.hid hs
  rw [hq] at d0 hlimx
  rw [hs] at e0 hlimx hlimm
  clear hq hs
  have y1 : (0 : Int) ≤ (m : Int) := by omega
  have y2 : (m : Int) < (most.length : Int) := by omega
  go_enter Try.func23, Try.ntmps23
  by_cases hqs : q = s
  · have HCAN := Lib.hid (show can rows most x (m : Int) = false by
      have : ¬ can rows most x (m : Int) = true := fun h => (can_spec.1 h).1 (by rw [HQ.out, HSS.out, hqs])
      simpa using this)
    subst hqs
    go_wp2_with fail
    go_quiet (fail)
    go_wp2
    go_ret
    exact RiseOut.no HCAN.out ((Agr.refl _ _).drewN _) (HBX.out.drewN _) (HBL.out.drewN _)
  have hqd : (q == s) = false := by simpa using hqs
  have HNE := Lib.hid hqs
  clear hqs
  go_wp2_with fail
  go_quiet (fail)
  clear hqd d0 e0
  generalize hW5 : World.drewN w _ = W5
  have HA5 := Lib.hid (show Agr w W5 [gx, gl] by rw [← hW5]; exact (Agr.refl _ _).drewN _)
  have HBX5 := Lib.hid (show Blk W5 gx 3 (intsC x) by rw [← hW5]; exact HBX.out.drewN _)
  have HBL5 := Lib.hid (show Blk W5 gl 3 (intsC (lefts rows x)) by rw [← hW5]; exact HBL.out.drewN _)
  have HS5 := Lib.hid (HS.out.agr HA5.out HSUB.out)
  clear hW5 b0 b1 HBX HBL HS
  have b3 := HS5.out.ci
  obtain ⟨oo, cp, c0, hin⟩ := HS5.out.inn m hm
  have HIN := Lib.hid hin
  have HIM := Lib.hid (fun i (h : i ∈ inOf rows (m : Int)) => mem_inOf.1 h)
  have HIL := Lib.hid (inTo_len rows rows.length (m : Int))
  have hI64 : (inOf rows (m : Int)).length ≤ 64 := by have := HIL.out; unfold inOf; omega
  have HCL := Lib.hid (can_left (rows := rows) (most := most) (x := x) (m := (m : Int)))
  have HLB := Lib.hid (fun v hv => lefts_bd HF.out (v := v) hv)
  have HLI := Lib.hid (lefts_inc HF.out.vl HF.out.len (m := (m : Int)) ⟨by omega, by omega⟩)
  rw [HQ.out, HSS.out] at HCL
  obtain ⟨I, hI⟩ : ∃ I, inOf rows (m : Int) = I := ⟨_, rfl⟩
  rw [hI] at c0 HIN HIM hI64 HCL HLI
  clear hI hin HIL
  obtain ⟨LE, hLE⟩ : ∃ LE, lefts rows x = LE := ⟨_, rfl⟩
  have HLL := Lib.hid (show LE.length = rows.length by rw [← hLE, lefts_len])
  have HLE := Lib.hid hLE
  rw [hLE] at HBL5 HCL HLB HLI
  clear hLE
  have HC0 := Lib.hid c0
  go_wp2
  go_loop [25] (fun i => ∃ j : Nat, j ≤ I.length ∧ i = .int .i64 j ∧ ∀ k, k < j → atI LE (I.getD k 0) ≠ 0) (fun i => I.length - (intOf i).toNat)
  case atStart => exact ⟨0, Nat.zero_le _, rfl, fun k hk => absurd hk (by omega)⟩
  case round =>
    obtain ⟨j, hj, rfl, hz⟩ := hrel
    have HZ := Lib.hid hz
    clear hz
    have b4 := HS5.out.cl
    by_cases hjl : j < I.length
    · obtain ⟨h, oh, hho, _, e0⟩ := HIN.out j hjl
      subst hho
      have hib := HIM.out _ (getD_mem hjl)
      have HMEM := Lib.hid (getD_mem hjl)
      obtain ⟨i, hi⟩ : ∃ i, I.getD j 0 = i := ⟨_, rfl⟩
      have HI := Lib.hid hi
      rw [hi] at e0 hib HMEM
      clear hi
      obtain ⟨J, rfl⟩ : ∃ J : Nat, i = (J : Int) := ⟨i.toNat, by omega⟩
      have hJ : J < LE.length := by have := HLL.out; omega
      have d0 : W5.cell? ⟨gl, J, none⟩ = some (.int .i64 (atI LE (J : Int))) := (HBL5.out.cell J).trans ((intsC_get hJ).trans (by simp [atI]))
      obtain ⟨t, ht⟩ : ∃ t, atI LE (J : Int) = t := ⟨_, rfl⟩
      have HT := Lib.hid ht
      rw [ht] at d0
      clear ht
      have z1 : (0 : Int) ≤ (j : Int) := by omega
      have z2 : (j : Int) < (I.length : Int) := by omega
      have z3 : (0 : Int) ≤ (J : Int) := by omega
      have z4 : (J : Int) < (rows.length : Int) := by omega
      by_cases ht0 : t = 0
      · have HCAN := Lib.hid (show can rows most x (m : Int) = false by
          have : ¬ can rows most x (m : Int) = true := fun h => (HCL.out.1 h).2 _ HMEM.out (by rw [HT.out, ht0])
          simpa using this)
        subst ht0
        go_wp2
        go_ret
        exact RiseOut.no HCAN.out HA5.out HBX5.out (by rw [HLE.out]; exact HBL5.out)
      have htd : (t == 0) = false := by simpa using ht0
      have HNX := Lib.hid (show ∀ k, k < j + 1 → atI LE (I.getD k 0) ≠ 0 from fun k hk => by
        rcases Nat.lt_or_eq_of_le (Nat.le_of_lt_succ hk) with h' | rfl
        · exact HZ.out k h'
        · rw [HI.out, HT.out]; exact ht0)
      clear ht0
      go_wp2
      go_round
      case rel => exact ⟨j + 1, by omega, by go_num, HNX.out⟩
      case measure => simp [intOf]; omega
    · obtain rfl : j = I.length := by omega
      clear hj hjl
      have HCAN := Lib.hid (show can rows most x (m : Int) = true from HCL.out.2 ⟨HNE.out, fun i hi => by
        obtain ⟨k, hk⟩ := List.getElem?_of_mem hi
        obtain ⟨h1, h2⟩ := List.getElem?_eq_some_iff.1 hk
        have := HZ.out k h1
        have e : I.getD k 0 = i := by simp [hk]
        rwa [e] at this⟩)
      go_wp2
      have HDB0 := Lib.hid (show ∀ v ∈ decr LE (I.take 0), (-100 : Int) + ((64 - 0 : Nat) : Int) - 64 ≤ v ∧ v ≤ 1000000 from fun v hv => by have := HLB.out v hv; omega)
      go_loopw [40] (fun i w2 => ∃ j : Nat, j ≤ I.length ∧ i = .int .i64 j ∧ Blk w2 gl 3 (intsC (decr LE (I.take j))) ∧ (∀ v ∈ decr LE (I.take j), - (j : Int) ≤ v ∧ v ≤ 1000000) ∧ Agr W5 w2 [gl]) (fun i _ => I.length - (intOf i).toNat)
      case atStart => exact ⟨0, Nat.zero_le _, rfl, HBL5.out, fun v hv => by have := HLB.out v hv; omega, Agr.refl _ _⟩
      case round =>
        obtain ⟨j, hj, rfl, hbl, hbd, ha⟩ := hrel
        have HBL := Lib.hid hbl
        have HBD := Lib.hid hbd
        have HA := Lib.hid ha
        clear hbl hbd ha HDB0
        have HSW := Lib.hid (HS5.out.agr HA.out (fun b hb => by simp at hb; subst hb; exact hgl))
        clear b4 b3 c0
        have b4 := HSW.out.cl
        by_cases hjl : j < I.length
        · obtain ⟨h, oh, hho, hnS, e0⟩ := HIN.out j hjl
          subst hho
          replace e0 := HA.out.cell e0 (fun h' => hnS (by simp at h'; subst h'; exact hgl))
          have hib := HIM.out _ (getD_mem hjl)
          have HTK := Lib.hid (takeI hjl)
          obtain ⟨i, hi⟩ : ∃ i, I.getD j 0 = i := ⟨_, rfl⟩
          rw [hi] at e0 hib HTK
          clear hi hnS
          obtain ⟨J, rfl⟩ : ∃ J : Nat, i = (J : Int) := ⟨i.toNat, by omega⟩
          have HDS := Lib.hid (show decr LE (I.take (j + 1)) = (decr LE (I.take j)).set J (atI (decr LE (I.take j)) (J : Int) - 1) by rw [HTK.out, decr_snoc, Int.toNat_natCast])
          have hDl : (decr LE (I.take j)).length = LE.length := decr_len _ _
          obtain ⟨D, hD⟩ : ∃ D, decr LE (I.take j) = D := ⟨_, rfl⟩
          rw [hD] at HBL HBD HDS hDl
          clear hD
          have hJ : J < D.length := by have := HLL.out; omega
          have d0 : wr.cell? ⟨gl, J, none⟩ = some (.int .i64 (atI D (J : Int))) := (HBL.out.cell J).trans ((intsC_get hJ).trans (by simp [atI]))
          have htb := HBD.out _ (atI_mem (x := D) (m := (J : Int)) ⟨by omega, by omega⟩)
          obtain ⟨t, ht⟩ : ∃ t, atI D (J : Int) = t := ⟨_, rfl⟩
          rw [ht] at d0 htb HDS
          clear ht
          have z1 : (0 : Int) ≤ (j : Int) := by omega
          have z2 : (j : Int) < (I.length : Int) := by omega
          have z3 : (0 : Int) ≤ (J : Int) := by omega
          have z4 : (J : Int) < (rows.length : Int) := by omega
          have f0 := HBL.out.frozen J
          have HNB := Lib.hid (show Blk (wr.setCell ⟨gl, J, none⟩ (.int .i64 (t - 1))) gl 3 (intsC (decr LE (I.take (j + 1)))) from by have := HBL.out.set J (.int .i64 (t - 1)); rwa [intsC_set, ← HDS.out] at this)
          have HNA := Lib.hid (HA.out.set (g := gl) (i := J) (u := .int .i64 (t - 1)) (by simp))
          have HND := Lib.hid (show ∀ v ∈ decr LE (I.take (j + 1)), - ((j + 1 : Nat) : Int) ≤ v ∧ v ≤ 1000000 from by
            rw [HDS.out]
            exact mem_set_bd (fun v hv => by have := HBD.out v hv; omega) (by omega))
          clear hDl hJ hib
          go_wp2
          go_roundw
          case rel => exact ⟨j + 1, by omega, by go_num, HNB.out, HND.out, HNA.out⟩
          case measure => simp [intOf]; omega
        · obtain rfl : j = I.length := by omega
          rw [List.take_length, HLI.out] at HBL
          have HBX6 := Lib.hid (HA.out.blk HBX5.out (by simp; exact hne))
          have b0 := HSW.out.cx
          have d0 : wr.cell? ⟨gx, m, none⟩ = some (.int .i64 q) := by rw [← HQ.out, ← HXX.out]; exact (HBX6.out.cell m).trans (intsC_get hxl)
          have f0 := HBX6.out.frozen m
          have HNX := Lib.hid (show Blk (wr.setCell ⟨gx, m, none⟩ (.int .i64 (q + 1))) gx 3 (intsC (inc x (m : Int))) from by have := HBX6.out.set m (.int .i64 (q + 1)); rw [intsC_set] at this; unfold inc; rwa [HQ.out, Int.toNat_natCast])
          have HNL := Lib.hid (HBL.out.other (p := ⟨gx, m, none⟩) (fun e => hne e.symm) (.int .i64 (q + 1)))
          have HNA := Lib.hid (((HA5.out.trans HA.out (fun b hb => by simp at hb; subst hb; simp)).set (g := gx) (i := m) (u := .int .i64 (q + 1)) (by simp)))
          clear b4
          go_wp2
          go_ret
          exact RiseOut.yes HCAN.out HNA.out HNX.out HNL.out
end Go.Proofs.Ytjaeekikddbbeaa
