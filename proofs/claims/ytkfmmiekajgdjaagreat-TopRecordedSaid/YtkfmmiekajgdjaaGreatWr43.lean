/- Package auditor: examine. -/
import Derived.Test.YtkfmmiekajgdjaaGreatWp43
import Derived.Test.YtkfmmiekajgdjaaGreatWq43
namespace Go.Proofs.YtkfmmiekajgdjaaGreat
open Go.RowKit
attribute [local go_sem] Oper.semAt_some

/-- The session that follows, wherever it lies. -/
def folS (c : ClA) : SesA := ⟨derF c.rds, derT c.rds, derE c.rds, none, 0, derL c.rds⟩
def netA (c : ClA) : Int := capA c.arts (sumL (linA c (folS c) c.arts.length))
def sumsA (c : ClA) : Bool := decide (c.b.net = netA c) && (decide (c.b.tax = taxOf (netA c) (rateN c.arts)) && decide (c.b.tot = netA c + taxOf (netA c) (rateN c.arts)))
/-- What Verify answers. -/
def verA (c : ClA) : Int :=
  if chainedA c.seed c.rds = false then 1
  else if tarA c.nm c.arts = false then 2
  else if datA c.off c.chg c.hol = false then 2
  else if derOk c.rds = false then 3
  else if cmpA c.s (folS c) = false then 3
  else if linOk c (folS c) = false then 4
  else if decide (c.b.l = linA c (folS c) c.arts.length) = false then 4
  else if addOk (netA c) (rateN c.arts) = false then 5
  else if sumsA c = false then 5
  else 0
theorem verA_def (c : ClA) : verA c = (if chainedA c.seed c.rds = false then 1
  else if tarA c.nm c.arts = false then 2
  else if datA c.off c.chg c.hol = false then 2
  else if derOk c.rds = false then 3
  else if cmpA c.s (folS c) = false then 3
  else if linOk c (folS c) = false then 4
  else if decide (c.b.l = linA c (folS c) c.arts.length) = false then 4
  else if addOk (netA c) (rateN c.arts) = false then 5
  else if sumsA c = false then 5
  else 0) := rfl
theorem rateN_bound {l : List Art} (hl : ∀ k, k < l.length → artA (getArt l k) = true) : ∀ k, k ≤ l.length → 0 ≤ rateN (l.take k) ∧ rateN (l.take k) ≤ 10000
  | 0, _ => by simp [rateN]
  | k + 1, h => by
    have ih := rateN_bound hl k (by omega)
    rw [rateN_take (by omega)]
    split
    · next h6 =>
      have ha := hl k (by omega)
      unfold artA tailB insB at ha
      rw [if_neg (by omega), if_neg (by omega), if_pos h6] at ha
      simp only [Bool.and_eq_true, decide_eq_true_eq] at ha
      exact ha.2.1
    · exact ih
theorem tar_facts {nm : ByteArray} {l : List Art} (h : tarA nm l = true) : l.length ≤ 12 ∧ ∀ k, k < l.length → artA (getArt l k) = true := by
  unfold tarA at h
  simp only [Bool.and_eq_true, decide_eq_true_eq, List.all_eq_true] at h
  refine ⟨by have := h.1.2; omega, fun k hk => ?_⟩
  have : getArt l k = l[k] := by simp [getArt, hk]
  rw [this]
  exact h.2.1 _ (List.getElem_mem hk)
theorem linA_bounds {c : ClA} {s : SesA} (ha : ∀ k, k < c.arts.length → artA (getArt c.arts k) = true) (hs : SesOk s) : ∀ k, k ≤ c.arts.length → ∀ x ∈ linA c s k, 0 ≤ x.2
  | 0, _, x, hx => by cases hx
  | k + 1, h, x, hx => by
    unfold linA at hx
    split at hx
    · exact linA_bounds ha hs k (by omega) x hx
    · rcases List.mem_append.1 hx with h3 | h3
      · exact linA_bounds ha hs k (by omega) x h3
      · obtain rfl := List.mem_singleton.1 h3
        exact (costA_bound (ha k (by omega)) hs).1
theorem linA_else (c : ClA) (f t e : Int) (o o' : Option Addr) (cap cap' : Nat) (l : List (Int × Int)) : ∀ k, linA c ⟨f, t, e, o, cap, l⟩ k = linA c ⟨f, t, e, o', cap', l⟩ k
  | 0 => rfl
  | k + 1 => by
    have ih := linA_else c f t e o o' cap cap' l k
    unfold linA
    rw [ih]
    rfl

theorem linOk_else (c : ClA) (f t e : Int) (o o' : Option Addr) (cap cap' : Nat) (l : List (Int × Int)) : linOk c ⟨f, t, e, o, cap, l⟩ = linOk c ⟨f, t, e, o', cap', l⟩ := by
  unfold linOk
  rw [linA_else c f t e o o' cap cap' l]

set_option maxRecDepth 100000 in
set_option maxHeartbeats 16000000 in
theorem examine_any (c : ClA) (w : World) (h : ClM w c) : Calls Tryz.prog 23 #[.agg (clL c).toArray, .bool true] w (fun e w' => Below w.heap.size w w' ∧ ∃ p, e = .returned (.tuple #[p, .int .i64 (verA c)])) := by
  have HC := Lib.hid h
  clear h
  have hmf : ∀ (fn : Fn) (first cap : Array Value) (w : World), (Instr.makeFunc fn first cap).run Tryz.prog w = .ok (.func fn first cap) w := fun _ _ _ _ => rfl
  go_enter_defers Tryz.func23, Tryz.ntmps23
  go_upto_region 3 with (fail)
  obtain ⟨wq, hwq⟩ : ∃ W, W = w.alloc (.cells (clL c).toArray 41) := ⟨_, rfl⟩
  obtain ⟨wp, hwp⟩ : ∃ W, W = wq.alloc (.cells #[.int .i64 0] 3) := ⟨_, rfl⟩
  obtain ⟨W1, hW1⟩ : ∃ W, W = wp.alloc (.cells (exL c SesA.zero BilA.zero 0).toArray 115) := ⟨_, rfl⟩
  have hsq : wq.heap.size = w.heap.size + 1 := by rw [hwq, World.size_alloc]
  have hsp : wp.heap.size = w.heap.size + 1 + 1 := by rw [hwp, World.size_alloc, hsq]
  have HQ := Lib.hid (show Blk W1 w.heap.size 41 (clL c).toArray by rw [hW1, hwp]; refine Blk.alloc (Blk.alloc ?_ _) _; rw [hwq]; exact Blk.new _ _ _)
  have HP := Lib.hid (show Blk W1 (w.heap.size + 1) 3 #[.int .i64 0] by rw [hW1]; refine Blk.alloc ?_ _; rw [hwp, ← hsq]; exact Blk.new _ _ _)
  have HB := Lib.hid (show Below w.heap.size w W1 by rw [hW1, hwp, hwq]; exact below_alloc (below_alloc (below_alloc (Below.refl _ _) _) _) _)
  have HX := Lib.hid (show ExM w W1 (w.heap.size + 1 + 1) c SesA.zero BilA.zero 0 from ⟨HC.out, HB.out, by omega, by rw [hW1, ← hsp]; exact Blk.new _ _ _⟩)
  have hS1 : W1 = ((w.alloc (.cells (clL c).toArray 41)).alloc (.cells #[.int .i64 0] 3)).alloc (.cells (exL c SesA.zero BilA.zero 0).toArray 115) := by rw [hW1, hwp, hwq]
  obtain ⟨g, hg⟩ : ∃ g, g = w.heap.size + 1 + 1 := ⟨_, rfl⟩
  obtain ⟨P, hP⟩ : ∃ P, P = w.heap.size + 1 := ⟨_, rfl⟩
  obtain ⟨Q, hQ⟩ : ∃ Q, Q = w.heap.size := ⟨_, rfl⟩
  have HGP := Lib.hid (show g = P + 1 ∧ P = Q + 1 ∧ Q = w.heap.size from ⟨by rw [hg, hP], by rw [hP, hQ], hQ⟩)
  show Code.wp _ _ _ _ (((w.alloc (.cells (clL c).toArray 41)).alloc (.cells #[.int .i64 0] 3)).alloc (.cells (exL c SesA.zero BilA.zero 0).toArray 115))
  rw [← hS1]
  rw [← hg] at HX ⊢
  rw [← hP] at HP ⊢
  rw [← hQ] at HQ ⊢
  clear hg hP hQ hS1 hW1 hwp hwq hsq hsp
  have HAG := Lib.hid (Agr.refl W1 [g])
  have HV := Lib.hid (verA_def c)
  -- the chain
  have HCH := Lib.hid (chained_any g c.od c.cd c.rds c.seed W1 (HX.out.blk.cell 5) (HX.out.blk.cell 6) HX.out.here.rds HC.out.seed)
  obtain ⟨b1, hb1⟩ : ∃ b, chainedA c.seed c.rds = b := ⟨_, rfl⟩
  have HB1 := Lib.hid hb1
  rw [hb1] at HCH
  clear hb1
  go_wp2_with fail
  refine HCH.out.mono ?_
  rintro _ W2 ⟨rfl, hb⟩
  replace HX := Lib.hid (HX.out.later hb)
  replace HAG := Lib.hid (HAG.out.later hb)
  clear hb HCH
  cases b1 with
  | false =>
    go_wp2
    have HPW := Lib.hid ((HAG.out).blk HP.out (by have := HGP.out.1; simp only [List.mem_singleton]; omega))
    have HBW := Lib.hid (HAG.out.below HB.out (by have := HGP.out; intro z hz; obtain rfl := List.mem_singleton.1 hz; omega))
    refine leaves_cons (f := 43) (args := #[.pointer (some ⟨P, 0, none⟩)]) (by simp) (by simp [go_sem]) ?_
    refine (catchA_panic P 0 1 [] W2 (HPW.out.cell 0) (HPW.out.frozen 0)).mono ?_
    rintro e u' w'' ⟨rfl, rfl, rfl⟩
    have hcl : ((W2.setCell ⟨P, 0, none⟩ (.int .i64 1)).alloc (.cells #[.int .i64 1] 154)).cell? ⟨P, 0, none⟩ = some (.int .i64 1) := ((HPW.out.set 0 (.int .i64 1)).alloc _).cell 0
    have hbl : Below w.heap.size w ((W2.setCell ⟨P, 0, none⟩ (.int .i64 1)).alloc (.cells #[.int .i64 1] 154)) := below_alloc (HBW.out.setCell (p := ⟨P, 0, none⟩) (by have := HGP.out; simp only; omega) _) _
    have hve : verA c = 1 := HV.out.trans (if_pos HB1.out)
    clear hmf
    simp [Leaves, settle, results, Tryz.results23, go_sem, hcl, hve]
    exact hbl
  | true =>
  replace HV := Lib.hid (HV.out.trans (if_neg (by rw [HB1.out]; simp)))
  -- the tariff
  have HCO := Lib.hid (chained_ok HB1.out)
  go_wp2_with fail
  refine (tariffed_any w W2 g c SesA.zero BilA.zero HX.out).mono ?_
  rintro _ W3 ⟨hag, ⟨hb2, rfl, hx⟩ | ⟨hb2, rfl, r, hx⟩⟩
  rotate_left
  · have HB2 := Lib.hid hb2
    replace HAG := Lib.hid (HAG.out.trans hag (fun _ h => h))
    clear hb2 hag hx HX
    go_wp2
    have HPW := Lib.hid ((HAG.out).blk HP.out (by have := HGP.out.1; simp only [List.mem_singleton]; omega))
    have HBW := Lib.hid (HAG.out.below HB.out (by have := HGP.out; intro z hz; obtain rfl := List.mem_singleton.1 hz; omega))
    refine leaves_cons (f := 43) (args := #[.pointer (some ⟨P, 0, none⟩)]) (by simp) (by simp [go_sem]) ?_
    refine (catchA_panic P 0 2 [] W3 (HPW.out.cell 0) (HPW.out.frozen 0)).mono ?_
    rintro e u' w'' ⟨rfl, rfl, rfl⟩
    have hcl : ((W3.setCell ⟨P, 0, none⟩ (.int .i64 2)).alloc (.cells #[.int .i64 2] 154)).cell? ⟨P, 0, none⟩ = some (.int .i64 2) := ((HPW.out.set 0 (.int .i64 2)).alloc _).cell 0
    have hbl : Below w.heap.size w ((W3.setCell ⟨P, 0, none⟩ (.int .i64 2)).alloc (.cells #[.int .i64 2] 154)) := below_alloc (HBW.out.setCell (p := ⟨P, 0, none⟩) (by have := HGP.out; simp only; omega) _) _
    have hve : verA c = 2 := HV.out.trans (if_pos HB2.out)
    clear hmf
    simp [Leaves, settle, results, Tryz.results23, go_sem, hcl, hve]
    exact hbl
  have HB2 := Lib.hid hb2
  replace HAG := Lib.hid (HAG.out.trans hag (fun _ h => h))
  replace HX := Lib.hid hx
  clear hb2 hag hx
  replace HV := Lib.hid (HV.out.trans (if_neg (by rw [HB2.out]; simp)))
  have HTF := Lib.hid (tar_facts HB2.out)
  have HRT := Lib.hid (rateN_bound HTF.out.2 c.arts.length (Nat.le_refl _))
  rw [List.take_length] at HRT
  -- the calendar
  have HDT := Lib.hid (dated_any w W3 g c SesA.zero BilA.zero (rateN c.arts) HX.out)
  obtain ⟨b3, hb3⟩ : ∃ b, datA c.off c.chg c.hol = b := ⟨_, rfl⟩
  have HB3 := Lib.hid hb3
  rw [hb3] at HDT
  clear hb3
  go_wp2_with fail
  refine HDT.out.mono ?_
  rintro _ W4 ⟨rfl, hb⟩
  replace HX := Lib.hid (HX.out.later hb)
  replace HAG := Lib.hid (HAG.out.later hb)
  clear hb HDT
  cases b3 with
  | false =>
    go_wp2
    have HPW := Lib.hid ((HAG.out).blk HP.out (by have := HGP.out.1; simp only [List.mem_singleton]; omega))
    have HBW := Lib.hid (HAG.out.below HB.out (by have := HGP.out; intro z hz; obtain rfl := List.mem_singleton.1 hz; omega))
    refine leaves_cons (f := 43) (args := #[.pointer (some ⟨P, 0, none⟩)]) (by simp) (by simp [go_sem]) ?_
    refine (catchA_panic P 0 2 [] W4 (HPW.out.cell 0) (HPW.out.frozen 0)).mono ?_
    rintro e u' w'' ⟨rfl, rfl, rfl⟩
    have hcl : ((W4.setCell ⟨P, 0, none⟩ (.int .i64 2)).alloc (.cells #[.int .i64 2] 154)).cell? ⟨P, 0, none⟩ = some (.int .i64 2) := ((HPW.out.set 0 (.int .i64 2)).alloc _).cell 0
    have hbl : Below w.heap.size w ((W4.setCell ⟨P, 0, none⟩ (.int .i64 2)).alloc (.cells #[.int .i64 2] 154)) := below_alloc (HBW.out.setCell (p := ⟨P, 0, none⟩) (by have := HGP.out; simp only; omega) _) _
    have hve : verA c = 2 := HV.out.trans (if_pos HB3.out)
    clear hmf
    simp [Leaves, settle, results, Tryz.results23, go_sem, hcl, hve]
    exact hbl
  | true =>
  replace HV := Lib.hid (HV.out.trans (if_neg (by rw [HB3.out]; simp)))
  -- the session
  go_wp2_with fail
  refine (derive_any w W4 g c BilA.zero (rateN c.arts) HX.out HCO.out).mono ?_
  rintro _ W5 ⟨hag, ⟨hb4, rfl, os, cs, hx, hts⟩ | ⟨hb4, rfl, s, hx⟩⟩
  rotate_left
  · have HB4 := Lib.hid hb4
    replace HAG := Lib.hid (HAG.out.trans hag (fun _ h => h))
    clear hb4 hag hx HX
    go_wp2
    have HPW := Lib.hid ((HAG.out).blk HP.out (by have := HGP.out.1; simp only [List.mem_singleton]; omega))
    have HBW := Lib.hid (HAG.out.below HB.out (by have := HGP.out; intro z hz; obtain rfl := List.mem_singleton.1 hz; omega))
    refine leaves_cons (f := 43) (args := #[.pointer (some ⟨P, 0, none⟩)]) (by simp) (by simp [go_sem]) ?_
    refine (catchA_panic P 0 3 [] W5 (HPW.out.cell 0) (HPW.out.frozen 0)).mono ?_
    rintro e u' w'' ⟨rfl, rfl, rfl⟩
    have hcl : ((W5.setCell ⟨P, 0, none⟩ (.int .i64 3)).alloc (.cells #[.int .i64 3] 154)).cell? ⟨P, 0, none⟩ = some (.int .i64 3) := ((HPW.out.set 0 (.int .i64 3)).alloc _).cell 0
    have hbl : Below w.heap.size w ((W5.setCell ⟨P, 0, none⟩ (.int .i64 3)).alloc (.cells #[.int .i64 3] 154)) := below_alloc (HBW.out.setCell (p := ⟨P, 0, none⟩) (by have := HGP.out; simp only; omega) _) _
    have hve : verA c = 3 := HV.out.trans (if_pos HB4.out)
    clear hmf
    simp [Leaves, settle, results, Tryz.results23, go_sem, hcl, hve]
    exact hbl
  have HB4 := Lib.hid hb4
  replace HAG := Lib.hid (HAG.out.trans hag (fun _ h => h))
  replace HX := Lib.hid hx
  have HTS := Lib.hid hts
  clear hb4 hag hx hts
  replace HV := Lib.hid (HV.out.trans (if_neg (by rw [HB4.out]; simp)))
  have HSO := Lib.hid (derOk_ses HCO.out HB4.out os cs)
  have HLE := Lib.hid (fun k => linA_else c (derF c.rds) (derT c.rds) (derE c.rds) os none cs 0 (derL c.rds) k)
  have HLO := Lib.hid (linOk_else c (derF c.rds) (derT c.rds) (derE c.rds) os none cs 0 (derL c.rds))
  have HCMP := Lib.hid (show cmpA c.s ⟨derF c.rds, derT c.rds, derE c.rds, os, cs, derL c.rds⟩ = cmpA c.s (folS c) from rfl)
  have HFO := Lib.hid (show (⟨derF c.rds, derT c.rds, derE c.rds, none, 0, derL c.rds⟩ : SesA) = folS c from rfl)
  rw [HFO.out] at HLE HLO
  obtain ⟨s, hs⟩ : ∃ s, (⟨derF c.rds, derT c.rds, derE c.rds, os, cs, derL c.rds⟩ : SesA) = s := ⟨_, rfl⟩
  have hso : os = s.o := by rw [← hs]
  have hsl : derL c.rds = s.l := by rw [← hs]
  rw [hs] at HX HSO HLE HLO HCMP
  rw [hso, hsl] at HTS
  clear hs hso hsl HFO
  -- the claim's own session
  have HCP := Lib.hid (compared_any w W5 g c s BilA.zero (rateN c.arts) HX.out HTS.out.twos HSO.out.n)
  rw [HCMP.out] at HCP
  obtain ⟨b5, hb5⟩ : ∃ b, cmpA c.s (folS c) = b := ⟨_, rfl⟩
  have HB5 := Lib.hid hb5
  rw [hb5] at HCP
  clear hb5
  go_wp2_with fail
  refine HCP.out.mono ?_
  rintro _ W6 ⟨rfl, hb⟩
  replace HX := Lib.hid (HX.out.later hb)
  replace HAG := Lib.hid (HAG.out.later hb)
  replace HTS := Lib.hid (HTS.out.later hb)
  clear hb HCP
  cases b5 with
  | false =>
    go_wp2
    have HPW := Lib.hid ((HAG.out).blk HP.out (by have := HGP.out.1; simp only [List.mem_singleton]; omega))
    have HBW := Lib.hid (HAG.out.below HB.out (by have := HGP.out; intro z hz; obtain rfl := List.mem_singleton.1 hz; omega))
    refine leaves_cons (f := 43) (args := #[.pointer (some ⟨P, 0, none⟩)]) (by simp) (by simp [go_sem]) ?_
    refine (catchA_panic P 0 3 [] W6 (HPW.out.cell 0) (HPW.out.frozen 0)).mono ?_
    rintro e u' w'' ⟨rfl, rfl, rfl⟩
    have hcl : ((W6.setCell ⟨P, 0, none⟩ (.int .i64 3)).alloc (.cells #[.int .i64 3] 154)).cell? ⟨P, 0, none⟩ = some (.int .i64 3) := ((HPW.out.set 0 (.int .i64 3)).alloc _).cell 0
    have hbl : Below w.heap.size w ((W6.setCell ⟨P, 0, none⟩ (.int .i64 3)).alloc (.cells #[.int .i64 3] 154)) := below_alloc (HBW.out.setCell (p := ⟨P, 0, none⟩) (by have := HGP.out; simp only; omega) _) _
    have hve : verA c = 3 := HV.out.trans (if_pos HB5.out)
    clear hmf
    simp [Leaves, settle, results, Tryz.results23, go_sem, hcl, hve]
    exact hbl
  | true =>
  replace HV := Lib.hid (HV.out.trans (if_neg (by rw [HB5.out]; simp)))
  -- the lines
  go_wp2_with fail
  refine (price_any w W6 g c s (rateN c.arts) HX.out HTS.out HB3.out HTF.out.1 HTF.out.2 HSO.out).mono ?_
  rintro _ W7 ⟨hag, ⟨hb6, rfl, ol, cl, hx, htl⟩ | ⟨hb6, rfl, bb, hx⟩⟩
  rotate_left
  · have HB6 := Lib.hid (HLO.out.symm.trans hb6)
    replace HAG := Lib.hid (HAG.out.trans hag (fun _ h => h))
    clear hb6 hag hx HX
    go_wp2
    have HPW := Lib.hid ((HAG.out).blk HP.out (by have := HGP.out.1; simp only [List.mem_singleton]; omega))
    have HBW := Lib.hid (HAG.out.below HB.out (by have := HGP.out; intro z hz; obtain rfl := List.mem_singleton.1 hz; omega))
    refine leaves_cons (f := 43) (args := #[.pointer (some ⟨P, 0, none⟩)]) (by simp) (by simp [go_sem]) ?_
    refine (catchA_panic P 0 4 [] W7 (HPW.out.cell 0) (HPW.out.frozen 0)).mono ?_
    rintro e u' w'' ⟨rfl, rfl, rfl⟩
    have hcl : ((W7.setCell ⟨P, 0, none⟩ (.int .i64 4)).alloc (.cells #[.int .i64 4] 154)).cell? ⟨P, 0, none⟩ = some (.int .i64 4) := ((HPW.out.set 0 (.int .i64 4)).alloc _).cell 0
    have hbl : Below w.heap.size w ((W7.setCell ⟨P, 0, none⟩ (.int .i64 4)).alloc (.cells #[.int .i64 4] 154)) := below_alloc (HBW.out.setCell (p := ⟨P, 0, none⟩) (by have := HGP.out; simp only; omega) _) _
    have hve : verA c = 4 := HV.out.trans (if_pos HB6.out)
    clear hmf
    simp [Leaves, settle, results, Tryz.results23, go_sem, hcl, hve]
    exact hbl
  have HB6 := Lib.hid (HLO.out.symm.trans hb6)
  replace HAG := Lib.hid (HAG.out.trans hag (fun _ h => h))
  replace HX := Lib.hid hx
  have HTL := Lib.hid htl
  have HL6 := Lib.hid hb6
  clear hb6 hag hx htl
  replace HV := Lib.hid (HV.out.trans (if_neg (by rw [HB6.out]; simp)))
  have HLB := Lib.hid (show ∀ x ∈ linA c s c.arts.length, 0 ≤ x.2 ∧ x.2 ≤ 1000000000 from fun x hx => ⟨linA_bounds HTF.out.2 HSO.out _ (Nat.le_refl _) x hx, by
    have h1 := HL6.out
    unfold linOk at h1
    exact of_decide_eq_true (List.all_eq_true.1 h1 x hx)⟩)
  have HLN := Lib.hid (linA_len c s c.arts.length)
  have HLQ := Lib.hid (HLE.out c.arts.length)
  have HNA := Lib.hid (show netA c = capA c.arts (sumL (linA c (folS c) c.arts.length)) from rfl)
  rw [← HLQ.out] at HNA HV
  obtain ⟨LN, hLN⟩ : ∃ LN, linA c s c.arts.length = LN := ⟨_, rfl⟩
  rw [hLN] at HX HTL HLB HLN HNA HV
  clear hLN HL6 HLE HLO HLQ
  have HQ7 := Lib.hid (HAG.out.blk HQ.out (by have := HGP.out; simp only [List.mem_singleton]; omega))
  have HLNB := Lib.hid (show LN.length ≤ 9000000000000000000 by have := HLN.out; have := HTF.out.1; omega)
  have HSM := Lib.hid (fun (w' : World) (hb : Below W7.heap.size W7 w') => sameL_any c.b.o ol c.b.cap cl c.b.l LN w' ((HX.out.later hb).here.lns) ((HTL.out.later hb).twos) HC.out.nl HLNB.out)
  obtain ⟨b7, hb7⟩ : ∃ b, decide (c.b.l = LN) = b := ⟨_, rfl⟩
  have HB7 := Lib.hid hb7
  rw [hb7] at HSM HV
  clear hb7
  go_upto_region 10 with (fail)
  refine wp_region_B 13 (fun w'' => Below W7.heap.size W7 w'') mixed (by kernel_rfl) (below_closed W7) (Below.refl _ _).drew ?_
  simp only [List.take_succ_cons, List.take_zero, List.drop_succ_cons, List.drop_zero]
  intro KR hR
  have HR := Lib.hid hR
  clear hR
  have HCC := Lib.hid (show ∀ w'', Below W7.heap.size W7 w'' → w''.cell? ⟨Q, 11, none⟩ = some (.slice c.b.o c.b.l.length c.b.cap) ∧ w''.cell? ⟨g, 19, none⟩ = some (.slice ol LN.length cl) from fun w'' hw => ⟨cell_kept hw (HQ7.out.cell 11), cell_kept hw (HX.out.blk.cell 19)⟩)
  apply wpB_val rfl
  · (intro w' hw'; go_simp; with_reducible rfl)
  simp only [Act.put, List.setIfInBounds_toArray, List.set_cons_zero, List.set_cons_succ]
  apply wpB_val rfl
  · (intro w' hw'; go_simp; with_reducible rfl)
  simp only [Act.put, List.setIfInBounds_toArray, List.set_cons_zero, List.set_cons_succ]
  apply wpB_val rfl
  · (intro w' hw'; go_simp; with_reducible rfl)
  simp only [Act.put, List.setIfInBounds_toArray, List.set_cons_zero, List.set_cons_succ]
  apply wpB_val rfl
  · (intro w' hw'; go_simp; with_reducible rfl)
  simp only [Act.put, List.setIfInBounds_toArray, List.set_cons_zero, List.set_cons_succ]
  apply wpB_val rfl
  · (intro w' hw'; go_simp; with_reducible rfl)
  simp only [Act.put, List.setIfInBounds_toArray, List.set_cons_zero, List.set_cons_succ]
  apply wpB_val rfl
  · (intro w' hw'; obtain ⟨c0, c1⟩ := HCC.out w' hw'; go_simp; with_reducible rfl)
  simp only [Act.put, List.setIfInBounds_toArray, List.set_cons_zero, List.set_cons_succ]
  apply wpB_val rfl
  · (intro w' hw'; go_simp; with_reducible rfl)
  simp only [Act.put, List.setIfInBounds_toArray, List.set_cons_zero, List.set_cons_succ]
  apply wpB_val rfl
  · (intro w' hw'; go_simp; with_reducible rfl)
  simp only [Act.put, List.setIfInBounds_toArray, List.set_cons_zero, List.set_cons_succ]
  apply wpB_val rfl
  · (intro w' hw'; go_simp; with_reducible rfl)
  simp only [Act.put, List.setIfInBounds_toArray, List.set_cons_zero, List.set_cons_succ]
  apply wpB_val rfl
  · (intro w' hw'; go_simp; with_reducible rfl)
  simp only [Act.put, List.setIfInBounds_toArray, List.set_cons_zero, List.set_cons_succ]
  apply wpB_val rfl
  · (intro w' hw'; obtain ⟨c0, c1⟩ := HCC.out w' hw'; go_simp; with_reducible rfl)
  simp only [Act.put, List.setIfInBounds_toArray, List.set_cons_zero, List.set_cons_succ]
  apply wpB_call 52 #[.slice c.b.o c.b.l.length c.b.cap, .slice ol LN.length cl] rfl (v := .bool b7)
  · (intro w'; go_simp)
  · exact fun w' hw' => HSM.out w' hw'
  simp only [Act.put, List.setIfInBounds_toArray, List.set_cons_zero, List.set_cons_succ]
  apply wpB_val rfl
  · (intro w' hw'; go_simp; with_reducible rfl)
  simp only [Act.put, List.setIfInBounds_toArray, List.set_cons_zero, List.set_cons_succ]
  refine wpB_nil (HR.out _ (fun w2 hw2 => ?_))
  clear HR HCC
  replace HX := Lib.hid (HX.out.later hw2)
  replace HAG := Lib.hid (HAG.out.later hw2)
  replace HTL := Lib.hid (HTL.out.later hw2)
  clear hw2 HSM HQ7
  cases b7 with
  | false =>
    go_wp2_with fail
    refine (need_no 4 w2).mono ?_
    rintro _ _ ⟨rfl, rfl⟩
    go_wp2
    have HPW := Lib.hid ((HAG.out).blk HP.out (by have := HGP.out.1; simp only [List.mem_singleton]; omega))
    have HBW := Lib.hid (HAG.out.below HB.out (by have := HGP.out; intro z hz; obtain rfl := List.mem_singleton.1 hz; omega))
    refine leaves_cons (f := 43) (args := #[.pointer (some ⟨P, 0, none⟩)]) (by simp) (by simp [go_sem]) ?_
    refine (catchA_panic P 0 4 [] w2 (HPW.out.cell 0) (HPW.out.frozen 0)).mono ?_
    rintro e u' w'' ⟨rfl, rfl, rfl⟩
    have hcl : ((w2.setCell ⟨P, 0, none⟩ (.int .i64 4)).alloc (.cells #[.int .i64 4] 154)).cell? ⟨P, 0, none⟩ = some (.int .i64 4) := ((HPW.out.set 0 (.int .i64 4)).alloc _).cell 0
    have hbl : Below w.heap.size w ((w2.setCell ⟨P, 0, none⟩ (.int .i64 4)).alloc (.cells #[.int .i64 4] 154)) := below_alloc (HBW.out.setCell (p := ⟨P, 0, none⟩) (by have := HGP.out; simp only; omega) _) _
    have hve : verA c = 4 := HV.out.trans (if_pos trivial)
    clear hmf
    simp [Leaves, settle, results, Tryz.results23, go_sem, hcl, hve]
    exact hbl
  | true =>
  replace HV := Lib.hid (HV.out.trans (if_neg (by simp)))
  go_wp2_with fail
  refine (need_ok 4 w2).mono ?_
  rintro _ _ ⟨rfl, rfl⟩
  -- the sums
  go_wp2_with fail
  refine (add_any w w2 g c s ol cl LN (rateN c.arts) HX.out HTL.out HLB.out (by have := HLN.out; have := HTF.out.1; omega) HTF.out.1 HTF.out.2 HRT.out.1 HRT.out.2).mono ?_
  rintro _ W8 hao
  unfold AddOut at hao
  rw [← HNA.out] at hao
  obtain ⟨hag, ⟨hb8, rfl, hx⟩ | ⟨hb8, rfl, bb, hx⟩⟩ := hao
  rotate_left
  · have HB8 := Lib.hid hb8
    replace HAG := Lib.hid (HAG.out.trans hag (fun _ h => h))
    clear hb8 hag hx HX
    go_wp2
    have HPW := Lib.hid ((HAG.out).blk HP.out (by have := HGP.out.1; simp only [List.mem_singleton]; omega))
    have HBW := Lib.hid (HAG.out.below HB.out (by have := HGP.out; intro z hz; obtain rfl := List.mem_singleton.1 hz; omega))
    refine leaves_cons (f := 43) (args := #[.pointer (some ⟨P, 0, none⟩)]) (by simp) (by simp [go_sem]) ?_
    refine (catchA_panic P 0 5 [] W8 (HPW.out.cell 0) (HPW.out.frozen 0)).mono ?_
    rintro e u' w'' ⟨rfl, rfl, rfl⟩
    have hcl : ((W8.setCell ⟨P, 0, none⟩ (.int .i64 5)).alloc (.cells #[.int .i64 5] 154)).cell? ⟨P, 0, none⟩ = some (.int .i64 5) := ((HPW.out.set 0 (.int .i64 5)).alloc _).cell 0
    have hbl : Below w.heap.size w ((W8.setCell ⟨P, 0, none⟩ (.int .i64 5)).alloc (.cells #[.int .i64 5] 154)) := below_alloc (HBW.out.setCell (p := ⟨P, 0, none⟩) (by have := HGP.out; simp only; omega) _) _
    have hve : verA c = 5 := HV.out.trans (if_pos HB8.out)
    clear hmf
    simp [Leaves, settle, results, Tryz.results23, go_sem, hcl, hve]
    exact hbl
  have HB8 := Lib.hid hb8
  replace HAG := Lib.hid (HAG.out.trans hag (fun _ h => h))
  replace HX := Lib.hid hx
  clear hb8 hag hx
  replace HV := Lib.hid (HV.out.trans (if_neg (by rw [HB8.out]; simp)))
  have HSU := Lib.hid (show sumsA c = (decide (c.b.net = netA c) && (decide (c.b.tax = taxOf (netA c) (rateN c.arts)) && decide (c.b.tot = netA c + taxOf (netA c) (rateN c.arts)))) from rfl)
  obtain ⟨NT, hNT⟩ : ∃ x, netA c = x := ⟨_, rfl⟩
  rw [hNT] at HX HSU
  obtain ⟨TX, hTX⟩ : ∃ x, taxOf NT (rateN c.arts) = x := ⟨_, rfl⟩
  rw [hTX] at HX HSU
  obtain ⟨TO, hTO⟩ : ∃ x, NT + TX = x := ⟨_, rfl⟩
  rw [hTO] at HX HSU
  clear hNT hTX hTO
  have HQ8 := Lib.hid (HAG.out.blk HQ.out (by have := HGP.out; simp only [List.mem_singleton]; omega))
  go_upto_region 12 with (fail)
  by_cases k1 : c.b.net = NT
  rotate_left
  · have d1 : (c.b.net == NT) = false := by simpa using k1
    have HVF := Lib.hid (show sumsA c = false by rw [HSU.out, decide_eq_false k1]; rfl)
    clear k1
    refine wp_region_B 35 (fun w'' => Below W8.heap.size W8 w'') mixed (by kernel_rfl) (below_closed W8) (Below.refl _ _).drew ?_
    simp only [List.take_succ_cons, List.take_zero, List.drop_succ_cons, List.drop_zero]
    intro KR hR
    have HR := Lib.hid hR
    clear hR
    have HCC := Lib.hid (show ∀ w'', Below W8.heap.size W8 w'' → w''.cell? ⟨Q, 12, none⟩ = some (.int .i64 c.b.net) ∧ w''.cell? ⟨Q, 13, none⟩ = some (.int .i64 c.b.tax) ∧ w''.cell? ⟨Q, 14, none⟩ = some (.int .i64 c.b.tot) ∧ w''.cell? ⟨g, 20, none⟩ = some (.int .i64 NT) ∧ w''.cell? ⟨g, 21, none⟩ = some (.int .i64 TX) ∧ w''.cell? ⟨g, 22, none⟩ = some (.int .i64 TO) from fun w'' hw => ⟨cell_kept hw (HQ8.out.cell 12), cell_kept hw (HQ8.out.cell 13), cell_kept hw (HQ8.out.cell 14), cell_kept hw (HX.out.blk.cell 20), cell_kept hw (HX.out.blk.cell 21), cell_kept hw (HX.out.blk.cell 22)⟩)
    apply wpB_val rfl
    · (intro w' hw'; go_simp; with_reducible rfl)
    simp only [Act.put, List.setIfInBounds_toArray, List.set_cons_zero, List.set_cons_succ]
    apply wpB_val rfl
    · (intro w' hw'; go_simp; with_reducible rfl)
    simp only [Act.put, List.setIfInBounds_toArray, List.set_cons_zero, List.set_cons_succ]
    apply wpB_val rfl
    · (intro w' hw'; go_simp; with_reducible rfl)
    simp only [Act.put, List.setIfInBounds_toArray, List.set_cons_zero, List.set_cons_succ]
    apply wpB_val rfl
    · (intro w' hw'; go_simp; with_reducible rfl)
    simp only [Act.put, List.setIfInBounds_toArray, List.set_cons_zero, List.set_cons_succ]
    apply wpB_val rfl
    · (intro w' hw'; go_simp; with_reducible rfl)
    simp only [Act.put, List.setIfInBounds_toArray, List.set_cons_zero, List.set_cons_succ]
    apply wpB_val rfl
    · (intro w' hw'; obtain ⟨c0, c1, c2, c3, c4, c5⟩ := HCC.out w' hw'; go_simp; with_reducible rfl)
    simp only [Act.put, List.setIfInBounds_toArray, List.set_cons_zero, List.set_cons_succ]
    apply wpB_val rfl
    · (intro w' hw'; go_simp; with_reducible rfl)
    simp only [Act.put, List.setIfInBounds_toArray, List.set_cons_zero, List.set_cons_succ]
    apply wpB_val rfl
    · (intro w' hw'; go_simp; with_reducible rfl)
    simp only [Act.put, List.setIfInBounds_toArray, List.set_cons_zero, List.set_cons_succ]
    apply wpB_val rfl
    · (intro w' hw'; go_simp; with_reducible rfl)
    simp only [Act.put, List.setIfInBounds_toArray, List.set_cons_zero, List.set_cons_succ]
    apply wpB_val rfl
    · (intro w' hw'; go_simp; with_reducible rfl)
    simp only [Act.put, List.setIfInBounds_toArray, List.set_cons_zero, List.set_cons_succ]
    apply wpB_val rfl
    · (intro w' hw'; obtain ⟨c0, c1, c2, c3, c4, c5⟩ := HCC.out w' hw'; go_simp; with_reducible rfl)
    simp only [Act.put, List.setIfInBounds_toArray, List.set_cons_zero, List.set_cons_succ]
    apply wpB_val rfl
    · (intro w' hw'; go_simp; with_reducible rfl)
    simp only [Act.put, List.setIfInBounds_toArray, List.set_cons_zero, List.set_cons_succ]
    apply wpB_val rfl
    · (intro w' hw'; go_simp; with_reducible rfl)
    simp only [Act.put, List.setIfInBounds_toArray, List.set_cons_zero, List.set_cons_succ]
    ((with_reducible refine wpB_skip ?_ ?_); exact rfl; simp only [Act.put, List.setIfInBounds_toArray, List.set_cons_zero, List.set_cons_succ])
    ((with_reducible refine wpB_skip ?_ ?_); exact rfl; simp only [Act.put, List.setIfInBounds_toArray, List.set_cons_zero, List.set_cons_succ])
    ((with_reducible refine wpB_skip ?_ ?_); exact rfl; simp only [Act.put, List.setIfInBounds_toArray, List.set_cons_zero, List.set_cons_succ])
    ((with_reducible refine wpB_skip ?_ ?_); exact rfl; simp only [Act.put, List.setIfInBounds_toArray, List.set_cons_zero, List.set_cons_succ])
    ((with_reducible refine wpB_skip ?_ ?_); exact rfl; simp only [Act.put, List.setIfInBounds_toArray, List.set_cons_zero, List.set_cons_succ])
    ((with_reducible refine wpB_skip ?_ ?_); exact rfl; simp only [Act.put, List.setIfInBounds_toArray, List.set_cons_zero, List.set_cons_succ])
    ((with_reducible refine wpB_skip ?_ ?_); exact rfl; simp only [Act.put, List.setIfInBounds_toArray, List.set_cons_zero, List.set_cons_succ])
    ((with_reducible refine wpB_skip ?_ ?_); exact rfl; simp only [Act.put, List.setIfInBounds_toArray, List.set_cons_zero, List.set_cons_succ])
    ((with_reducible refine wpB_skip ?_ ?_); exact rfl; simp only [Act.put, List.setIfInBounds_toArray, List.set_cons_zero, List.set_cons_succ])
    apply wpB_val rfl
    · (intro w' hw'; go_simp; with_reducible rfl)
    simp only [Act.put, List.setIfInBounds_toArray, List.set_cons_zero, List.set_cons_succ]
    apply wpB_val rfl
    · (intro w' hw'; go_simp; with_reducible rfl)
    simp only [Act.put, List.setIfInBounds_toArray, List.set_cons_zero, List.set_cons_succ]
    ((with_reducible refine wpB_skip ?_ ?_); exact rfl; simp only [Act.put, List.setIfInBounds_toArray, List.set_cons_zero, List.set_cons_succ])
    ((with_reducible refine wpB_skip ?_ ?_); exact rfl; simp only [Act.put, List.setIfInBounds_toArray, List.set_cons_zero, List.set_cons_succ])
    ((with_reducible refine wpB_skip ?_ ?_); exact rfl; simp only [Act.put, List.setIfInBounds_toArray, List.set_cons_zero, List.set_cons_succ])
    ((with_reducible refine wpB_skip ?_ ?_); exact rfl; simp only [Act.put, List.setIfInBounds_toArray, List.set_cons_zero, List.set_cons_succ])
    ((with_reducible refine wpB_skip ?_ ?_); exact rfl; simp only [Act.put, List.setIfInBounds_toArray, List.set_cons_zero, List.set_cons_succ])
    ((with_reducible refine wpB_skip ?_ ?_); exact rfl; simp only [Act.put, List.setIfInBounds_toArray, List.set_cons_zero, List.set_cons_succ])
    ((with_reducible refine wpB_skip ?_ ?_); exact rfl; simp only [Act.put, List.setIfInBounds_toArray, List.set_cons_zero, List.set_cons_succ])
    ((with_reducible refine wpB_skip ?_ ?_); exact rfl; simp only [Act.put, List.setIfInBounds_toArray, List.set_cons_zero, List.set_cons_succ])
    ((with_reducible refine wpB_skip ?_ ?_); exact rfl; simp only [Act.put, List.setIfInBounds_toArray, List.set_cons_zero, List.set_cons_succ])
    apply wpB_val rfl
    · (intro w' hw'; go_simp; with_reducible rfl)
    simp only [Act.put, List.setIfInBounds_toArray, List.set_cons_zero, List.set_cons_succ]
    apply wpB_val rfl
    · (intro w' hw'; go_simp; with_reducible rfl)
    simp only [Act.put, List.setIfInBounds_toArray, List.set_cons_zero, List.set_cons_succ]
    refine wpB_nil (HR.out _ (fun w2 hw2 => ?_))
    clear HR HCC
    go_wp2_with fail
    refine (need_no 5 w2).mono ?_
    rintro _ _ ⟨rfl, rfl⟩
    replace HAG := Lib.hid (HAG.out.later hw2)
    clear hw2 HX
    go_wp2
    have HPW := Lib.hid ((HAG.out).blk HP.out (by have := HGP.out.1; simp only [List.mem_singleton]; omega))
    have HBW := Lib.hid (HAG.out.below HB.out (by have := HGP.out; intro z hz; obtain rfl := List.mem_singleton.1 hz; omega))
    refine leaves_cons (f := 43) (args := #[.pointer (some ⟨P, 0, none⟩)]) (by simp) (by simp [go_sem]) ?_
    refine (catchA_panic P 0 5 [] w2 (HPW.out.cell 0) (HPW.out.frozen 0)).mono ?_
    rintro e u' w'' ⟨rfl, rfl, rfl⟩
    have hcl : ((w2.setCell ⟨P, 0, none⟩ (.int .i64 5)).alloc (.cells #[.int .i64 5] 154)).cell? ⟨P, 0, none⟩ = some (.int .i64 5) := ((HPW.out.set 0 (.int .i64 5)).alloc _).cell 0
    have hbl : Below w.heap.size w ((w2.setCell ⟨P, 0, none⟩ (.int .i64 5)).alloc (.cells #[.int .i64 5] 154)) := below_alloc (HBW.out.setCell (p := ⟨P, 0, none⟩) (by have := HGP.out; simp only; omega) _) _
    have hve : verA c = 5 := HV.out.trans (if_pos HVF.out)
    clear hmf
    simp [Leaves, settle, results, Tryz.results23, go_sem, hcl, hve]
    exact hbl
  have d1 : (c.b.net == NT) = true := by simpa using k1
  by_cases k2 : c.b.tax = TX
  rotate_left
  · have d2 : (c.b.tax == TX) = false := by simpa using k2
    have HVF := Lib.hid (show sumsA c = false by rw [HSU.out, decide_eq_false k2]; simp)
    clear k1 k2
    refine wp_region_B 35 (fun w'' => Below W8.heap.size W8 w'') mixed (by kernel_rfl) (below_closed W8) (Below.refl _ _).drew ?_
    simp only [List.take_succ_cons, List.take_zero, List.drop_succ_cons, List.drop_zero]
    intro KR hR
    have HR := Lib.hid hR
    clear hR
    have HCC := Lib.hid (show ∀ w'', Below W8.heap.size W8 w'' → w''.cell? ⟨Q, 12, none⟩ = some (.int .i64 c.b.net) ∧ w''.cell? ⟨Q, 13, none⟩ = some (.int .i64 c.b.tax) ∧ w''.cell? ⟨Q, 14, none⟩ = some (.int .i64 c.b.tot) ∧ w''.cell? ⟨g, 20, none⟩ = some (.int .i64 NT) ∧ w''.cell? ⟨g, 21, none⟩ = some (.int .i64 TX) ∧ w''.cell? ⟨g, 22, none⟩ = some (.int .i64 TO) from fun w'' hw => ⟨cell_kept hw (HQ8.out.cell 12), cell_kept hw (HQ8.out.cell 13), cell_kept hw (HQ8.out.cell 14), cell_kept hw (HX.out.blk.cell 20), cell_kept hw (HX.out.blk.cell 21), cell_kept hw (HX.out.blk.cell 22)⟩)
    apply wpB_val rfl
    · (intro w' hw'; go_simp; with_reducible rfl)
    simp only [Act.put, List.setIfInBounds_toArray, List.set_cons_zero, List.set_cons_succ]
    apply wpB_val rfl
    · (intro w' hw'; go_simp; with_reducible rfl)
    simp only [Act.put, List.setIfInBounds_toArray, List.set_cons_zero, List.set_cons_succ]
    apply wpB_val rfl
    · (intro w' hw'; go_simp; with_reducible rfl)
    simp only [Act.put, List.setIfInBounds_toArray, List.set_cons_zero, List.set_cons_succ]
    apply wpB_val rfl
    · (intro w' hw'; go_simp; with_reducible rfl)
    simp only [Act.put, List.setIfInBounds_toArray, List.set_cons_zero, List.set_cons_succ]
    apply wpB_val rfl
    · (intro w' hw'; go_simp; with_reducible rfl)
    simp only [Act.put, List.setIfInBounds_toArray, List.set_cons_zero, List.set_cons_succ]
    apply wpB_val rfl
    · (intro w' hw'; obtain ⟨c0, c1, c2, c3, c4, c5⟩ := HCC.out w' hw'; go_simp; with_reducible rfl)
    simp only [Act.put, List.setIfInBounds_toArray, List.set_cons_zero, List.set_cons_succ]
    apply wpB_val rfl
    · (intro w' hw'; go_simp; with_reducible rfl)
    simp only [Act.put, List.setIfInBounds_toArray, List.set_cons_zero, List.set_cons_succ]
    apply wpB_val rfl
    · (intro w' hw'; go_simp; with_reducible rfl)
    simp only [Act.put, List.setIfInBounds_toArray, List.set_cons_zero, List.set_cons_succ]
    apply wpB_val rfl
    · (intro w' hw'; go_simp; with_reducible rfl)
    simp only [Act.put, List.setIfInBounds_toArray, List.set_cons_zero, List.set_cons_succ]
    apply wpB_val rfl
    · (intro w' hw'; go_simp; with_reducible rfl)
    simp only [Act.put, List.setIfInBounds_toArray, List.set_cons_zero, List.set_cons_succ]
    apply wpB_val rfl
    · (intro w' hw'; obtain ⟨c0, c1, c2, c3, c4, c5⟩ := HCC.out w' hw'; go_simp; with_reducible rfl)
    simp only [Act.put, List.setIfInBounds_toArray, List.set_cons_zero, List.set_cons_succ]
    apply wpB_val rfl
    · (intro w' hw'; go_simp; with_reducible rfl)
    simp only [Act.put, List.setIfInBounds_toArray, List.set_cons_zero, List.set_cons_succ]
    apply wpB_val rfl
    · (intro w' hw'; go_simp; with_reducible rfl)
    simp only [Act.put, List.setIfInBounds_toArray, List.set_cons_zero, List.set_cons_succ]
    apply wpB_val rfl
    · (intro w' hw'; go_simp; with_reducible rfl)
    simp only [Act.put, List.setIfInBounds_toArray, List.set_cons_zero, List.set_cons_succ]
    apply wpB_val rfl
    · (intro w' hw'; go_simp; with_reducible rfl)
    simp only [Act.put, List.setIfInBounds_toArray, List.set_cons_zero, List.set_cons_succ]
    apply wpB_val rfl
    · (intro w' hw'; obtain ⟨c0, c1, c2, c3, c4, c5⟩ := HCC.out w' hw'; go_simp; with_reducible rfl)
    simp only [Act.put, List.setIfInBounds_toArray, List.set_cons_zero, List.set_cons_succ]
    apply wpB_val rfl
    · (intro w' hw'; go_simp; with_reducible rfl)
    simp only [Act.put, List.setIfInBounds_toArray, List.set_cons_zero, List.set_cons_succ]
    apply wpB_val rfl
    · (intro w' hw'; go_simp; with_reducible rfl)
    simp only [Act.put, List.setIfInBounds_toArray, List.set_cons_zero, List.set_cons_succ]
    apply wpB_val rfl
    · (intro w' hw'; go_simp; with_reducible rfl)
    simp only [Act.put, List.setIfInBounds_toArray, List.set_cons_zero, List.set_cons_succ]
    apply wpB_val rfl
    · (intro w' hw'; go_simp; with_reducible rfl)
    simp only [Act.put, List.setIfInBounds_toArray, List.set_cons_zero, List.set_cons_succ]
    apply wpB_val rfl
    · (intro w' hw'; obtain ⟨c0, c1, c2, c3, c4, c5⟩ := HCC.out w' hw'; go_simp; with_reducible rfl)
    simp only [Act.put, List.setIfInBounds_toArray, List.set_cons_zero, List.set_cons_succ]
    apply wpB_val rfl
    · (intro w' hw'; go_simp; with_reducible rfl)
    simp only [Act.put, List.setIfInBounds_toArray, List.set_cons_zero, List.set_cons_succ]
    apply wpB_val rfl
    · (intro w' hw'; go_simp; with_reducible rfl)
    simp only [Act.put, List.setIfInBounds_toArray, List.set_cons_zero, List.set_cons_succ]
    apply wpB_val rfl
    · (intro w' hw'; go_simp; with_reducible rfl)
    simp only [Act.put, List.setIfInBounds_toArray, List.set_cons_zero, List.set_cons_succ]
    ((with_reducible refine wpB_skip ?_ ?_); exact rfl; simp only [Act.put, List.setIfInBounds_toArray, List.set_cons_zero, List.set_cons_succ])
    ((with_reducible refine wpB_skip ?_ ?_); exact rfl; simp only [Act.put, List.setIfInBounds_toArray, List.set_cons_zero, List.set_cons_succ])
    ((with_reducible refine wpB_skip ?_ ?_); exact rfl; simp only [Act.put, List.setIfInBounds_toArray, List.set_cons_zero, List.set_cons_succ])
    ((with_reducible refine wpB_skip ?_ ?_); exact rfl; simp only [Act.put, List.setIfInBounds_toArray, List.set_cons_zero, List.set_cons_succ])
    ((with_reducible refine wpB_skip ?_ ?_); exact rfl; simp only [Act.put, List.setIfInBounds_toArray, List.set_cons_zero, List.set_cons_succ])
    ((with_reducible refine wpB_skip ?_ ?_); exact rfl; simp only [Act.put, List.setIfInBounds_toArray, List.set_cons_zero, List.set_cons_succ])
    ((with_reducible refine wpB_skip ?_ ?_); exact rfl; simp only [Act.put, List.setIfInBounds_toArray, List.set_cons_zero, List.set_cons_succ])
    ((with_reducible refine wpB_skip ?_ ?_); exact rfl; simp only [Act.put, List.setIfInBounds_toArray, List.set_cons_zero, List.set_cons_succ])
    ((with_reducible refine wpB_skip ?_ ?_); exact rfl; simp only [Act.put, List.setIfInBounds_toArray, List.set_cons_zero, List.set_cons_succ])
    apply wpB_val rfl
    · (intro w' hw'; go_simp; with_reducible rfl)
    simp only [Act.put, List.setIfInBounds_toArray, List.set_cons_zero, List.set_cons_succ]
    apply wpB_val rfl
    · (intro w' hw'; go_simp; with_reducible rfl)
    simp only [Act.put, List.setIfInBounds_toArray, List.set_cons_zero, List.set_cons_succ]
    refine wpB_nil (HR.out _ (fun w2 hw2 => ?_))
    clear HR HCC
    go_wp2_with fail
    refine (need_no 5 w2).mono ?_
    rintro _ _ ⟨rfl, rfl⟩
    replace HAG := Lib.hid (HAG.out.later hw2)
    clear hw2 HX
    go_wp2
    have HPW := Lib.hid ((HAG.out).blk HP.out (by have := HGP.out.1; simp only [List.mem_singleton]; omega))
    have HBW := Lib.hid (HAG.out.below HB.out (by have := HGP.out; intro z hz; obtain rfl := List.mem_singleton.1 hz; omega))
    refine leaves_cons (f := 43) (args := #[.pointer (some ⟨P, 0, none⟩)]) (by simp) (by simp [go_sem]) ?_
    refine (catchA_panic P 0 5 [] w2 (HPW.out.cell 0) (HPW.out.frozen 0)).mono ?_
    rintro e u' w'' ⟨rfl, rfl, rfl⟩
    have hcl : ((w2.setCell ⟨P, 0, none⟩ (.int .i64 5)).alloc (.cells #[.int .i64 5] 154)).cell? ⟨P, 0, none⟩ = some (.int .i64 5) := ((HPW.out.set 0 (.int .i64 5)).alloc _).cell 0
    have hbl : Below w.heap.size w ((w2.setCell ⟨P, 0, none⟩ (.int .i64 5)).alloc (.cells #[.int .i64 5] 154)) := below_alloc (HBW.out.setCell (p := ⟨P, 0, none⟩) (by have := HGP.out; simp only; omega) _) _
    have hve : verA c = 5 := HV.out.trans (if_pos HVF.out)
    clear hmf
    simp [Leaves, settle, results, Tryz.results23, go_sem, hcl, hve]
    exact hbl
  have d2 : (c.b.tax == TX) = true := by simpa using k2
  by_cases k3 : c.b.tot = TO
  rotate_left
  · have d3 : (c.b.tot == TO) = false := by simpa using k3
    have HVF := Lib.hid (show sumsA c = false by rw [HSU.out, decide_eq_false k3]; simp)
    clear k1 k2 k3
    refine wp_region_B 35 (fun w'' => Below W8.heap.size W8 w'') mixed (by kernel_rfl) (below_closed W8) (Below.refl _ _).drew ?_
    simp only [List.take_succ_cons, List.take_zero, List.drop_succ_cons, List.drop_zero]
    intro KR hR
    have HR := Lib.hid hR
    clear hR
    have HCC := Lib.hid (show ∀ w'', Below W8.heap.size W8 w'' → w''.cell? ⟨Q, 12, none⟩ = some (.int .i64 c.b.net) ∧ w''.cell? ⟨Q, 13, none⟩ = some (.int .i64 c.b.tax) ∧ w''.cell? ⟨Q, 14, none⟩ = some (.int .i64 c.b.tot) ∧ w''.cell? ⟨g, 20, none⟩ = some (.int .i64 NT) ∧ w''.cell? ⟨g, 21, none⟩ = some (.int .i64 TX) ∧ w''.cell? ⟨g, 22, none⟩ = some (.int .i64 TO) from fun w'' hw => ⟨cell_kept hw (HQ8.out.cell 12), cell_kept hw (HQ8.out.cell 13), cell_kept hw (HQ8.out.cell 14), cell_kept hw (HX.out.blk.cell 20), cell_kept hw (HX.out.blk.cell 21), cell_kept hw (HX.out.blk.cell 22)⟩)
    apply wpB_val rfl
    · (intro w' hw'; go_simp; with_reducible rfl)
    simp only [Act.put, List.setIfInBounds_toArray, List.set_cons_zero, List.set_cons_succ]
    apply wpB_val rfl
    · (intro w' hw'; go_simp; with_reducible rfl)
    simp only [Act.put, List.setIfInBounds_toArray, List.set_cons_zero, List.set_cons_succ]
    apply wpB_val rfl
    · (intro w' hw'; go_simp; with_reducible rfl)
    simp only [Act.put, List.setIfInBounds_toArray, List.set_cons_zero, List.set_cons_succ]
    apply wpB_val rfl
    · (intro w' hw'; go_simp; with_reducible rfl)
    simp only [Act.put, List.setIfInBounds_toArray, List.set_cons_zero, List.set_cons_succ]
    apply wpB_val rfl
    · (intro w' hw'; go_simp; with_reducible rfl)
    simp only [Act.put, List.setIfInBounds_toArray, List.set_cons_zero, List.set_cons_succ]
    apply wpB_val rfl
    · (intro w' hw'; obtain ⟨c0, c1, c2, c3, c4, c5⟩ := HCC.out w' hw'; go_simp; with_reducible rfl)
    simp only [Act.put, List.setIfInBounds_toArray, List.set_cons_zero, List.set_cons_succ]
    apply wpB_val rfl
    · (intro w' hw'; go_simp; with_reducible rfl)
    simp only [Act.put, List.setIfInBounds_toArray, List.set_cons_zero, List.set_cons_succ]
    apply wpB_val rfl
    · (intro w' hw'; go_simp; with_reducible rfl)
    simp only [Act.put, List.setIfInBounds_toArray, List.set_cons_zero, List.set_cons_succ]
    apply wpB_val rfl
    · (intro w' hw'; go_simp; with_reducible rfl)
    simp only [Act.put, List.setIfInBounds_toArray, List.set_cons_zero, List.set_cons_succ]
    apply wpB_val rfl
    · (intro w' hw'; go_simp; with_reducible rfl)
    simp only [Act.put, List.setIfInBounds_toArray, List.set_cons_zero, List.set_cons_succ]
    apply wpB_val rfl
    · (intro w' hw'; obtain ⟨c0, c1, c2, c3, c4, c5⟩ := HCC.out w' hw'; go_simp; with_reducible rfl)
    simp only [Act.put, List.setIfInBounds_toArray, List.set_cons_zero, List.set_cons_succ]
    apply wpB_val rfl
    · (intro w' hw'; go_simp; with_reducible rfl)
    simp only [Act.put, List.setIfInBounds_toArray, List.set_cons_zero, List.set_cons_succ]
    apply wpB_val rfl
    · (intro w' hw'; go_simp; with_reducible rfl)
    simp only [Act.put, List.setIfInBounds_toArray, List.set_cons_zero, List.set_cons_succ]
    apply wpB_val rfl
    · (intro w' hw'; go_simp; with_reducible rfl)
    simp only [Act.put, List.setIfInBounds_toArray, List.set_cons_zero, List.set_cons_succ]
    apply wpB_val rfl
    · (intro w' hw'; go_simp; with_reducible rfl)
    simp only [Act.put, List.setIfInBounds_toArray, List.set_cons_zero, List.set_cons_succ]
    apply wpB_val rfl
    · (intro w' hw'; obtain ⟨c0, c1, c2, c3, c4, c5⟩ := HCC.out w' hw'; go_simp; with_reducible rfl)
    simp only [Act.put, List.setIfInBounds_toArray, List.set_cons_zero, List.set_cons_succ]
    apply wpB_val rfl
    · (intro w' hw'; go_simp; with_reducible rfl)
    simp only [Act.put, List.setIfInBounds_toArray, List.set_cons_zero, List.set_cons_succ]
    apply wpB_val rfl
    · (intro w' hw'; go_simp; with_reducible rfl)
    simp only [Act.put, List.setIfInBounds_toArray, List.set_cons_zero, List.set_cons_succ]
    apply wpB_val rfl
    · (intro w' hw'; go_simp; with_reducible rfl)
    simp only [Act.put, List.setIfInBounds_toArray, List.set_cons_zero, List.set_cons_succ]
    apply wpB_val rfl
    · (intro w' hw'; go_simp; with_reducible rfl)
    simp only [Act.put, List.setIfInBounds_toArray, List.set_cons_zero, List.set_cons_succ]
    apply wpB_val rfl
    · (intro w' hw'; obtain ⟨c0, c1, c2, c3, c4, c5⟩ := HCC.out w' hw'; go_simp; with_reducible rfl)
    simp only [Act.put, List.setIfInBounds_toArray, List.set_cons_zero, List.set_cons_succ]
    apply wpB_val rfl
    · (intro w' hw'; go_simp; with_reducible rfl)
    simp only [Act.put, List.setIfInBounds_toArray, List.set_cons_zero, List.set_cons_succ]
    apply wpB_val rfl
    · (intro w' hw'; go_simp; with_reducible rfl)
    simp only [Act.put, List.setIfInBounds_toArray, List.set_cons_zero, List.set_cons_succ]
    apply wpB_val rfl
    · (intro w' hw'; go_simp; with_reducible rfl)
    simp only [Act.put, List.setIfInBounds_toArray, List.set_cons_zero, List.set_cons_succ]
    apply wpB_val rfl
    · (intro w' hw'; go_simp; with_reducible rfl)
    simp only [Act.put, List.setIfInBounds_toArray, List.set_cons_zero, List.set_cons_succ]
    apply wpB_val rfl
    · (intro w' hw'; go_simp; with_reducible rfl)
    simp only [Act.put, List.setIfInBounds_toArray, List.set_cons_zero, List.set_cons_succ]
    apply wpB_val rfl
    · (intro w' hw'; obtain ⟨c0, c1, c2, c3, c4, c5⟩ := HCC.out w' hw'; go_simp; with_reducible rfl)
    simp only [Act.put, List.setIfInBounds_toArray, List.set_cons_zero, List.set_cons_succ]
    apply wpB_val rfl
    · (intro w' hw'; go_simp; with_reducible rfl)
    simp only [Act.put, List.setIfInBounds_toArray, List.set_cons_zero, List.set_cons_succ]
    apply wpB_val rfl
    · (intro w' hw'; go_simp; with_reducible rfl)
    simp only [Act.put, List.setIfInBounds_toArray, List.set_cons_zero, List.set_cons_succ]
    apply wpB_val rfl
    · (intro w' hw'; go_simp; with_reducible rfl)
    simp only [Act.put, List.setIfInBounds_toArray, List.set_cons_zero, List.set_cons_succ]
    apply wpB_val rfl
    · (intro w' hw'; go_simp; with_reducible rfl)
    simp only [Act.put, List.setIfInBounds_toArray, List.set_cons_zero, List.set_cons_succ]
    apply wpB_val rfl
    · (intro w' hw'; obtain ⟨c0, c1, c2, c3, c4, c5⟩ := HCC.out w' hw'; go_simp; with_reducible rfl)
    simp only [Act.put, List.setIfInBounds_toArray, List.set_cons_zero, List.set_cons_succ]
    apply wpB_val rfl
    · (intro w' hw'; go_simp; with_reducible rfl)
    simp only [Act.put, List.setIfInBounds_toArray, List.set_cons_zero, List.set_cons_succ]
    apply wpB_val rfl
    · (intro w' hw'; go_simp; with_reducible rfl)
    simp only [Act.put, List.setIfInBounds_toArray, List.set_cons_zero, List.set_cons_succ]
    apply wpB_val rfl
    · (intro w' hw'; go_simp; with_reducible rfl)
    simp only [Act.put, List.setIfInBounds_toArray, List.set_cons_zero, List.set_cons_succ]
    refine wpB_nil (HR.out _ (fun w2 hw2 => ?_))
    clear HR HCC
    go_wp2_with fail
    refine (need_no 5 w2).mono ?_
    rintro _ _ ⟨rfl, rfl⟩
    replace HAG := Lib.hid (HAG.out.later hw2)
    clear hw2 HX
    go_wp2
    have HPW := Lib.hid ((HAG.out).blk HP.out (by have := HGP.out.1; simp only [List.mem_singleton]; omega))
    have HBW := Lib.hid (HAG.out.below HB.out (by have := HGP.out; intro z hz; obtain rfl := List.mem_singleton.1 hz; omega))
    refine leaves_cons (f := 43) (args := #[.pointer (some ⟨P, 0, none⟩)]) (by simp) (by simp [go_sem]) ?_
    refine (catchA_panic P 0 5 [] w2 (HPW.out.cell 0) (HPW.out.frozen 0)).mono ?_
    rintro e u' w'' ⟨rfl, rfl, rfl⟩
    have hcl : ((w2.setCell ⟨P, 0, none⟩ (.int .i64 5)).alloc (.cells #[.int .i64 5] 154)).cell? ⟨P, 0, none⟩ = some (.int .i64 5) := ((HPW.out.set 0 (.int .i64 5)).alloc _).cell 0
    have hbl : Below w.heap.size w ((w2.setCell ⟨P, 0, none⟩ (.int .i64 5)).alloc (.cells #[.int .i64 5] 154)) := below_alloc (HBW.out.setCell (p := ⟨P, 0, none⟩) (by have := HGP.out; simp only; omega) _) _
    have hve : verA c = 5 := HV.out.trans (if_pos HVF.out)
    clear hmf
    simp [Leaves, settle, results, Tryz.results23, go_sem, hcl, hve]
    exact hbl
  have d3 : (c.b.tot == TO) = true := by simpa using k3
  have HVF := Lib.hid (show sumsA c = true by rw [HSU.out, decide_eq_true k1, decide_eq_true k2, decide_eq_true k3]; rfl)
  clear k1 k2 k3
  refine wp_region_B 35 (fun w'' => Below W8.heap.size W8 w'') mixed (by kernel_rfl) (below_closed W8) (Below.refl _ _).drew ?_
  simp only [List.take_succ_cons, List.take_zero, List.drop_succ_cons, List.drop_zero]
  intro KR hR
  have HR := Lib.hid hR
  clear hR
  have HCC := Lib.hid (show ∀ w'', Below W8.heap.size W8 w'' → w''.cell? ⟨Q, 12, none⟩ = some (.int .i64 c.b.net) ∧ w''.cell? ⟨Q, 13, none⟩ = some (.int .i64 c.b.tax) ∧ w''.cell? ⟨Q, 14, none⟩ = some (.int .i64 c.b.tot) ∧ w''.cell? ⟨g, 20, none⟩ = some (.int .i64 NT) ∧ w''.cell? ⟨g, 21, none⟩ = some (.int .i64 TX) ∧ w''.cell? ⟨g, 22, none⟩ = some (.int .i64 TO) from fun w'' hw => ⟨cell_kept hw (HQ8.out.cell 12), cell_kept hw (HQ8.out.cell 13), cell_kept hw (HQ8.out.cell 14), cell_kept hw (HX.out.blk.cell 20), cell_kept hw (HX.out.blk.cell 21), cell_kept hw (HX.out.blk.cell 22)⟩)
  apply wpB_val rfl
  · (intro w' hw'; go_simp; with_reducible rfl)
  simp only [Act.put, List.setIfInBounds_toArray, List.set_cons_zero, List.set_cons_succ]
  apply wpB_val rfl
  · (intro w' hw'; go_simp; with_reducible rfl)
  simp only [Act.put, List.setIfInBounds_toArray, List.set_cons_zero, List.set_cons_succ]
  apply wpB_val rfl
  · (intro w' hw'; go_simp; with_reducible rfl)
  simp only [Act.put, List.setIfInBounds_toArray, List.set_cons_zero, List.set_cons_succ]
  apply wpB_val rfl
  · (intro w' hw'; go_simp; with_reducible rfl)
  simp only [Act.put, List.setIfInBounds_toArray, List.set_cons_zero, List.set_cons_succ]
  apply wpB_val rfl
  · (intro w' hw'; go_simp; with_reducible rfl)
  simp only [Act.put, List.setIfInBounds_toArray, List.set_cons_zero, List.set_cons_succ]
  apply wpB_val rfl
  · (intro w' hw'; obtain ⟨c0, c1, c2, c3, c4, c5⟩ := HCC.out w' hw'; go_simp; with_reducible rfl)
  simp only [Act.put, List.setIfInBounds_toArray, List.set_cons_zero, List.set_cons_succ]
  apply wpB_val rfl
  · (intro w' hw'; go_simp; with_reducible rfl)
  simp only [Act.put, List.setIfInBounds_toArray, List.set_cons_zero, List.set_cons_succ]
  apply wpB_val rfl
  · (intro w' hw'; go_simp; with_reducible rfl)
  simp only [Act.put, List.setIfInBounds_toArray, List.set_cons_zero, List.set_cons_succ]
  apply wpB_val rfl
  · (intro w' hw'; go_simp; with_reducible rfl)
  simp only [Act.put, List.setIfInBounds_toArray, List.set_cons_zero, List.set_cons_succ]
  apply wpB_val rfl
  · (intro w' hw'; go_simp; with_reducible rfl)
  simp only [Act.put, List.setIfInBounds_toArray, List.set_cons_zero, List.set_cons_succ]
  apply wpB_val rfl
  · (intro w' hw'; obtain ⟨c0, c1, c2, c3, c4, c5⟩ := HCC.out w' hw'; go_simp; with_reducible rfl)
  simp only [Act.put, List.setIfInBounds_toArray, List.set_cons_zero, List.set_cons_succ]
  apply wpB_val rfl
  · (intro w' hw'; go_simp; with_reducible rfl)
  simp only [Act.put, List.setIfInBounds_toArray, List.set_cons_zero, List.set_cons_succ]
  apply wpB_val rfl
  · (intro w' hw'; go_simp; with_reducible rfl)
  simp only [Act.put, List.setIfInBounds_toArray, List.set_cons_zero, List.set_cons_succ]
  apply wpB_val rfl
  · (intro w' hw'; go_simp; with_reducible rfl)
  simp only [Act.put, List.setIfInBounds_toArray, List.set_cons_zero, List.set_cons_succ]
  apply wpB_val rfl
  · (intro w' hw'; go_simp; with_reducible rfl)
  simp only [Act.put, List.setIfInBounds_toArray, List.set_cons_zero, List.set_cons_succ]
  apply wpB_val rfl
  · (intro w' hw'; obtain ⟨c0, c1, c2, c3, c4, c5⟩ := HCC.out w' hw'; go_simp; with_reducible rfl)
  simp only [Act.put, List.setIfInBounds_toArray, List.set_cons_zero, List.set_cons_succ]
  apply wpB_val rfl
  · (intro w' hw'; go_simp; with_reducible rfl)
  simp only [Act.put, List.setIfInBounds_toArray, List.set_cons_zero, List.set_cons_succ]
  apply wpB_val rfl
  · (intro w' hw'; go_simp; with_reducible rfl)
  simp only [Act.put, List.setIfInBounds_toArray, List.set_cons_zero, List.set_cons_succ]
  apply wpB_val rfl
  · (intro w' hw'; go_simp; with_reducible rfl)
  simp only [Act.put, List.setIfInBounds_toArray, List.set_cons_zero, List.set_cons_succ]
  apply wpB_val rfl
  · (intro w' hw'; go_simp; with_reducible rfl)
  simp only [Act.put, List.setIfInBounds_toArray, List.set_cons_zero, List.set_cons_succ]
  apply wpB_val rfl
  · (intro w' hw'; obtain ⟨c0, c1, c2, c3, c4, c5⟩ := HCC.out w' hw'; go_simp; with_reducible rfl)
  simp only [Act.put, List.setIfInBounds_toArray, List.set_cons_zero, List.set_cons_succ]
  apply wpB_val rfl
  · (intro w' hw'; go_simp; with_reducible rfl)
  simp only [Act.put, List.setIfInBounds_toArray, List.set_cons_zero, List.set_cons_succ]
  apply wpB_val rfl
  · (intro w' hw'; go_simp; with_reducible rfl)
  simp only [Act.put, List.setIfInBounds_toArray, List.set_cons_zero, List.set_cons_succ]
  apply wpB_val rfl
  · (intro w' hw'; go_simp; with_reducible rfl)
  simp only [Act.put, List.setIfInBounds_toArray, List.set_cons_zero, List.set_cons_succ]
  apply wpB_val rfl
  · (intro w' hw'; go_simp; with_reducible rfl)
  simp only [Act.put, List.setIfInBounds_toArray, List.set_cons_zero, List.set_cons_succ]
  apply wpB_val rfl
  · (intro w' hw'; go_simp; with_reducible rfl)
  simp only [Act.put, List.setIfInBounds_toArray, List.set_cons_zero, List.set_cons_succ]
  apply wpB_val rfl
  · (intro w' hw'; obtain ⟨c0, c1, c2, c3, c4, c5⟩ := HCC.out w' hw'; go_simp; with_reducible rfl)
  simp only [Act.put, List.setIfInBounds_toArray, List.set_cons_zero, List.set_cons_succ]
  apply wpB_val rfl
  · (intro w' hw'; go_simp; with_reducible rfl)
  simp only [Act.put, List.setIfInBounds_toArray, List.set_cons_zero, List.set_cons_succ]
  apply wpB_val rfl
  · (intro w' hw'; go_simp; with_reducible rfl)
  simp only [Act.put, List.setIfInBounds_toArray, List.set_cons_zero, List.set_cons_succ]
  apply wpB_val rfl
  · (intro w' hw'; go_simp; with_reducible rfl)
  simp only [Act.put, List.setIfInBounds_toArray, List.set_cons_zero, List.set_cons_succ]
  apply wpB_val rfl
  · (intro w' hw'; go_simp; with_reducible rfl)
  simp only [Act.put, List.setIfInBounds_toArray, List.set_cons_zero, List.set_cons_succ]
  apply wpB_val rfl
  · (intro w' hw'; obtain ⟨c0, c1, c2, c3, c4, c5⟩ := HCC.out w' hw'; go_simp; with_reducible rfl)
  simp only [Act.put, List.setIfInBounds_toArray, List.set_cons_zero, List.set_cons_succ]
  apply wpB_val rfl
  · (intro w' hw'; go_simp; with_reducible rfl)
  simp only [Act.put, List.setIfInBounds_toArray, List.set_cons_zero, List.set_cons_succ]
  apply wpB_val rfl
  · (intro w' hw'; go_simp; with_reducible rfl)
  simp only [Act.put, List.setIfInBounds_toArray, List.set_cons_zero, List.set_cons_succ]
  apply wpB_val rfl
  · (intro w' hw'; go_simp; with_reducible rfl)
  simp only [Act.put, List.setIfInBounds_toArray, List.set_cons_zero, List.set_cons_succ]
  refine wpB_nil (HR.out _ (fun w2 hw2 => ?_))
  clear HR HCC
  go_wp2_with fail
  refine (need_ok 5 w2).mono ?_
  rintro _ _ ⟨rfl, rfl⟩
  replace HAG := Lib.hid (HAG.out.later hw2)
  clear hw2 HX
  have HVZ := Lib.hid (HV.out.trans (if_neg (by rw [HVF.out]; simp)))
  have HPW := Lib.hid (HAG.out.blk HP.out (by have := HGP.out.1; simp only [List.mem_singleton]; omega))
  have HBW := Lib.hid (HAG.out.below HB.out (by have := HGP.out; intro z hz; obtain rfl := List.mem_singleton.1 hz; omega))
  have p0 : w2.cell? ⟨P, 0, none⟩ = some (.int .i64 0) := HPW.out.cell 0
  have p1 := HPW.out.frozen 0
  go_wp2
  refine leaves_cons (f := 43) (args := #[.pointer (some ⟨P, 0, none⟩)]) (by simp) (by simp [go_sem]) ?_
  refine (catchA_idle ⟨P, 0, none⟩ _).mono ?_
  rintro e u' w'' ⟨rfl, rfl, rfl⟩
  have hbl : Below w.heap.size w (w2.setCell ⟨P, 0, none⟩ (.int .i64 0)) := HBW.out.setCell (p := ⟨P, 0, none⟩) (by have := HGP.out; simp only; omega) _
  have hcl : (w2.setCell ⟨P, 0, none⟩ (.int .i64 0)).cell? ⟨P, 0, none⟩ = some (.int .i64 0) := (HPW.out.set 0 (.int .i64 0)).cell 0
  have hve : verA c = 0 := HVZ.out
  clear hmf
  simp [Leaves, settle, results, Tryz.results23, go_sem, hcl, hve]
  exact hbl
set_option maxRecDepth 100000 in
set_option maxHeartbeats 8000000 in
theorem verify_any (c : ClA) (w : World) (h : ClM w c) : Calls Tryz.prog 10 #[.agg (clL c).toArray] w (Ret (.int .i64 (verA c)) w) := by
  have HC := Lib.hid h
  clear h
  go_enter Tryz.func10, Tryz.ntmps10
  go_upto_region 1 with (fail)
  obtain ⟨W1, hW1⟩ : ∃ W, W = w.alloc (.cells (clL c).toArray 41) := ⟨_, rfl⟩
  have HB := Lib.hid (show Below w.heap.size w W1 by rw [hW1]; exact below_alloc (Below.refl _ _) _)
  have HQ := Lib.hid (show Blk W1 w.heap.size 41 (clL c).toArray by rw [hW1]; exact Blk.new _ _ _)
  show Code.wp _ _ _ _ (w.alloc (.cells (clL c).toArray 41))
  rw [← hW1]
  clear hW1
  obtain ⟨Q, hQ⟩ : ∃ Q, Q = w.heap.size := ⟨_, rfl⟩
  rw [← hQ] at HQ ⊢
  clear hQ
  have q0 : W1.cell? ⟨Q, 0, none⟩ = some (.string c.nm) := HQ.out.cell 0
  have q1 : W1.cell? ⟨Q, 1, none⟩ = some (.slice c.oa c.arts.length c.ca) := HQ.out.cell 1
  have q2 : W1.cell? ⟨Q, 2, none⟩ = some (.int .i64 c.off) := HQ.out.cell 2
  have q3 : W1.cell? ⟨Q, 3, none⟩ = some (.slice c.oc c.chg.length c.cc) := HQ.out.cell 3
  have q4 : W1.cell? ⟨Q, 4, none⟩ = some (.slice c.oh c.hol.length c.ch) := HQ.out.cell 4
  have q5 : W1.cell? ⟨Q, 5, none⟩ = some (.slice c.od c.rds.length c.cd) := HQ.out.cell 5
  have q6 : W1.cell? ⟨Q, 6, none⟩ = some (.int .u64 (c.seed : Nat)) := HQ.out.cell 6
  have q7 : W1.cell? ⟨Q, 7, none⟩ = some (.int .i64 c.s.f) := HQ.out.cell 7
  have q8 : W1.cell? ⟨Q, 8, none⟩ = some (.int .i64 c.s.t) := HQ.out.cell 8
  have q9 : W1.cell? ⟨Q, 9, none⟩ = some (.int .i64 c.s.e) := HQ.out.cell 9
  have q10 : W1.cell? ⟨Q, 10, none⟩ = some (.slice c.s.o c.s.l.length c.s.cap) := HQ.out.cell 10
  have q11 : W1.cell? ⟨Q, 11, none⟩ = some (.slice c.b.o c.b.l.length c.b.cap) := HQ.out.cell 11
  have q12 : W1.cell? ⟨Q, 12, none⟩ = some (.int .i64 c.b.net) := HQ.out.cell 12
  have q13 : W1.cell? ⟨Q, 13, none⟩ = some (.int .i64 c.b.tax) := HQ.out.cell 13
  have q14 : W1.cell? ⟨Q, 14, none⟩ = some (.int .i64 c.b.tot) := HQ.out.cell 14
  go_wp2_with fail
  refine (examine_any c W1 (HC.out.later HB.out)).mono ?_
  rintro e W2 ⟨hb, pv, rfl⟩
  have HB2 := Lib.hid (below_step HB.out hb)
  clear hb q0 q1 q2 q3 q4 q5 q6 q7 q8 q9 q10 q11 q12 q13 q14
  obtain ⟨z, hz⟩ : ∃ z, verA c = z := ⟨_, rfl⟩
  have HZ := Lib.hid hz
  rw [hz]
  clear hz
  go_wp2
  go_ret
  exact ⟨by rw [HZ.out]; rfl, HB2.out⟩
end Go.Proofs.YtkfmmiekajgdjaaGreat