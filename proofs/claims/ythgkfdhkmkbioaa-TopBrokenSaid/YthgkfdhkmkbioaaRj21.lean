/- The check r7Jobs: two jobs share two slots; a third one is refused. -/
import Derived.Test.YthgkfdhkmkbioaaRu21
import Derived.Test.YthgkfdhkmkbioaaKs21
import Derived.Test.YthgkfdhkmkbioaaPm21
namespace Go.Proofs.Ythgkfdhkmkbioaa
open Go.RowKit Go.Shelf
attribute [local go_sem] Oper.semAt_some

/-! ### In plain -/
def jA : Jb := ⟨0, 2, 10, 10, 1⟩
def jB : Jb := ⟨0, 2, 10, 10, 3⟩
def jX : Jb := ⟨0, 1, 5, 5, 2⟩
def S0 : List Int := [10, 10]
theorem v2 : ValidP [jA, jB] S0 := validP_iff.1 (by decide)
theorem v3 : ValidP ([jA, jB] ++ [jX]) S0 := validP_iff.1 (by decide)
theorem plan_of {J : List Jb} {S : List Int} {P : Nat → Nat → Int} (h : (decide (∀ i, i < J.length → ∀ t, t < S.length → 0 ≤ P i t ∧ P i t ≤ rateAt (getJ J i) t) && (decide (∀ i, i < J.length → sumN S.length (P i) = (getJ J i).e) && decide (∀ t, t < S.length → sumN J.length (fun i => P i t) ≤ S.getD t 0))) = true) : PlanOk J S P := by
  simp only [Bool.and_eq_true, decide_eq_true_eq] at h
  exact ⟨h.1, h.2.1, h.2.2⟩
theorem f1 : Feas [jA] S0 := ⟨fun _ t => if t = 0 then 10 else 0, plan_of (by decide)⟩
theorem f2 : Feas [jA, jB] S0 := ⟨fun i t => if i = t then 10 else 0, plan_of (by decide)⟩
theorem f3 : Feas [jA, jX] S0 := ⟨fun i t => if i = 0 then (if t = 1 then 10 else 0) else (if t = 0 then 5 else 0), plan_of (by decide)⟩
theorem n1 : ¬ Feas ([jA, jB] ++ [jX]) S0 := fun ⟨P, hP⟩ => by
  have h := plan_hall hP (fun _ => true)
  revert h
  decide
theorem n2 : ¬ Feas [jA, jX, jB] S0 := fun ⟨P, hP⟩ => by
  have h := plan_hall hP (fun _ => true)
  revert h
  decide
theorem ord3 : ordN ([jA, jB] ++ [jX]) = [0, 2, 1] := by decide
theorem keeps3 {K : List Nat} {CL : List Ct} (h : KeepsF ([jA, jB] ++ [jX]) S0 [] [] (ordN ([jA, jB] ++ [jX])) K CL) : K = [0, 2] ∧ CL.length = 1 := by
  rw [ord3] at h
  rcases h with ⟨_, h⟩ | ⟨_, _, _, hn, _⟩
  · rcases h with ⟨_, h⟩ | ⟨_, _, _, hn, _⟩
    · rcases h with ⟨hf, _⟩ | ⟨_, _, _, _, h⟩
      · exact absurd hf n2
      · exact ⟨h.1, by rw [h.2]; rfl⟩
    · exact absurd f3 hn
  · exact absurd f1 hn
/-! ### The walk -/
theorem two_ints {w : World} {B : Nat} {a b : Int} (h : Blk w B 3 #[.int .i64 a, .int .i64 b]) : Ints w (some ⟨B, 0, none⟩) [a, b] := fun i hi => by
  match i, hi with
  | 0, _ => exact ⟨B, 0, rfl, h.cell 0⟩
  | 1, _ => exact ⟨B, 0, rfl, h.cell 1⟩
theorem two_jobs {w : World} {B : Nat} {a b : Jb} (h : Blk w B 27 #[.int .i64 a.f, .int .i64 a.t, .int .i64 a.e, .int .i64 a.r, .int .i64 a.k, .int .i64 b.f, .int .i64 b.t, .int .i64 b.e, .int .i64 b.r, .int .i64 b.k]) : JobsM w (some ⟨B, 0, none⟩) [a, b] := fun i hi => by
  match i, hi with
  | 0, _ => exact ⟨B, 0, rfl, h.cell 0, h.cell 1, h.cell 2, h.cell 3, h.cell 4⟩
  | 1, _ => exact ⟨B, 0, rfl, h.cell 5, h.cell 6, h.cell 7, h.cell 8, h.cell 9⟩
def jabC : Array Value := #[.int .i64 0, .int .i64 2, .int .i64 10, .int .i64 10, .int .i64 1, .int .i64 0, .int .i64 2, .int .i64 10, .int .i64 10, .int .i64 3]
def jxC : Array Value := #[.int .i64 0, .int .i64 1, .int .i64 5, .int .i64 5, .int .i64 2]
set_option maxRecDepth 100000 in
set_option maxHeartbeats 16000000 in
theorem r7jobs_any (w : World) : Calls Try.prog 6 #[] w (Ret (.bool true) w) := by
  go_enter Try.func6, Try.ntmps6
  go_upto_region 3 with (fail)
  obtain ⟨W1, hW1⟩ : ∃ W, W = (w.alloc (.cells #[.int .i64 0, .int .i64 2, .int .i64 10, .int .i64 10, .int .i64 1, .int .i64 0, .int .i64 2, .int .i64 10, .int .i64 10, .int .i64 3] 27)).alloc (.cells #[.int .i64 0, .int .i64 1, .int .i64 5, .int .i64 5, .int .i64 2] 27) := ⟨_, rfl⟩
  have HB1 := Lib.hid (show Below w.heap.size w W1 by rw [hW1]; exact below_alloc (below_alloc (Below.refl _ _) _) _)
  have HJ1 := Lib.hid (show Blk W1 w.heap.size 27 #[.int .i64 0, .int .i64 2, .int .i64 10, .int .i64 10, .int .i64 1, .int .i64 0, .int .i64 2, .int .i64 10, .int .i64 10, .int .i64 3] by rw [hW1]; exact (Blk.new ..).alloc _)
  have HX1 := Lib.hid (show Blk W1 (w.heap.size + 1) 27 (jobC jX) by
    rw [hW1]
    have := Blk.new (w.alloc (.cells #[.int .i64 0, .int .i64 2, .int .i64 10, .int .i64 10, .int .i64 1, .int .i64 0, .int .i64 2, .int .i64 10, .int .i64 10, .int .i64 3] 27)) 27 #[.int .i64 0, .int .i64 1, .int .i64 5, .int .i64 5, .int .i64 2]
    rwa [World.size_alloc] at this)
  rw [← hW1]
  clear hW1
  have HJM := Lib.hid (fun (W : World) (hb : Below W1.heap.size W1 W) => show JobsM W (some ⟨w.heap.size, 0, none⟩) [jA, jB] from two_jobs (HJ1.out.later hb))
  have HSD := Lib.hid (fun (W : World) (hb : Below W1.heap.size W1 W) => show Calls Try.prog 8 #[.slice (some ⟨w.heap.size, 0, none⟩) 2 2, .slice (some ⟨W.heap.size, 0, none⟩) 2 2] (W.alloc (.cells #[.int .i64 10, .int .i64 10] 3)) (fun e w' => SchedOut (W.alloc (.cells #[.int .i64 10, .int .i64 10] 3)) w' [jA, jB] S0 e) from sched_any _ [jA, jB] S0 (some ⟨w.heap.size, 0, none⟩) (some ⟨W.heap.size, 0, none⟩) 2 2 (HJM.out _ (below_alloc hb _)) (two_ints (Blk.new ..)) v2)
  have HX0 := Lib.hid (fun (W : World) (hb : Below W1.heap.size W1 W) => show W.cell? ⟨w.heap.size + 1, 0, none⟩ = some (.int .i64 0) ∧ W.cell? ⟨w.heap.size + 1, 1, none⟩ = some (.int .i64 1) ∧ W.cell? ⟨w.heap.size + 1, 2, none⟩ = some (.int .i64 5) ∧ W.cell? ⟨w.heap.size + 1, 3, none⟩ = some (.int .i64 5) ∧ W.cell? ⟨w.heap.size + 1, 4, none⟩ = some (.int .i64 2) from ⟨(HX1.out.later hb).cell 0, (HX1.out.later hb).cell 1, (HX1.out.later hb).cell 2, (HX1.out.later hb).cell 3, (HX1.out.later hb).cell 4⟩)
  have HS1 := Lib.hid (HSD.out W1 (Below.refl _ _))
  go_wp2_with fail
  refine HS1.out.mono ?_
  rintro _ W2 hso
  obtain ⟨hb2, AL, OB, L, P, rfl, _, hob, hal, hll, hlv, hP⟩ := hso.good f2
  have HB2 := Lib.hid (show Below W1.heap.size W1 W2 from below_step (below_alloc (Below.refl _ _) _) hb2)
  have HPM := Lib.hid (show PlanM W2 (some ⟨OB, 0, none⟩) 2 2 P from sched_plan hob hal hll hlv)
  have HPO := Lib.hid hP
  clear hb2 hob hal hll hlv hP hso HS1 HSD
  obtain ⟨S1, hS1⟩ : ∃ x, W1.heap.size = x := ⟨_, rfl⟩
  go_upto_region 4 with (fail)
  obtain ⟨W3, hW3⟩ : ∃ W, W = W2.alloc (.cells #[.slice none 0 0, .slice none 0 0] 30) := ⟨_, rfl⟩
  have hb3 : Below W2.heap.size W2 W3 := by rw [hW3]; exact below_alloc (Below.refl _ _) _
  have HB3 := Lib.hid (below_step HB2.out hb3)
  have HPM3 := Lib.hid (HPM.out.later hb3)
  rw [← hW3]
  clear hW3 hb3 HPM HB2
  obtain ⟨C4, hC4⟩ : ∃ x, W2.heap.size = x := ⟨_, rfl⟩
  rw [hC4]
  clear hC4
  obtain ⟨x0, x1, x2, x3, x4⟩ := HX0.out (W3.alloc (.cells #[.int .i64 10, .int .i64 10] 3)) (below_alloc HB3.out _)
  have HAD := Lib.hid (show Calls Try.prog 12 #[.slice (some ⟨w.heap.size, 0, none⟩) 2 2, .slice (some ⟨W3.heap.size, 0, none⟩) 2 2, .agg #[.int .i64 0, .int .i64 1, .int .i64 5, .int .i64 5, .int .i64 2]] (W3.alloc (.cells #[.int .i64 10, .int .i64 10] 3)) (fun e w' => AdmOut (W3.alloc (.cells #[.int .i64 10, .int .i64 10] 3)) w' [jA, jB] S0 jX e) from admit_any _ [jA, jB] S0 jX (some ⟨w.heap.size, 0, none⟩) (some ⟨W3.heap.size, 0, none⟩) 2 2 (HJM.out _ (below_alloc HB3.out _)) (two_ints (Blk.new ..)) v2 f2 (fun h => by cases h) (fun a h => by cases h; rfl))
  go_wp2_with fail
  refine HAD.out.mono ?_
  rintro _ W5 hao
  clear x0 x1 x2 x3 x4
  rcases hao.ex with ⟨c, _, h12, _⟩ | ⟨_, hso⟩
  · exact absurd (h12 (by decide)) (by decide)
  rcases hso.ex with ⟨AL2, OB2, L2, P2, _, _, _, _, _, _, hP2⟩ | ⟨w1, w2, C, T, rfl, hr1, hr2, hcut⟩
  · exact absurd ⟨P2, hP2⟩ n1
  have HB5 := Lib.hid (show Below W1.heap.size W1 W5 from below_step (below_alloc HB3.out _) hao.bel)
  have HPM5 := Lib.hid (HPM3.out.later (below_step (below_alloc (Below.refl _ _) _) hao.bel))
  obtain ⟨o1, c1, rfl, _⟩ := ownsRow_shapeQ hr1
  obtain ⟨o2, c2, rfl, _⟩ := ownsRow_shapeQ hr2
  have HI1 := Lib.hid (row_ints hr1)
  have HI2 := Lib.hid (row_ints hr2)
  have HCU := Lib.hid (chosenL_cut hcut)
  have HC1 := Lib.hid (chosenL_inc C ([jA, jB] ++ [jX]).length)
  have HC2 := Lib.hid (chosenL_inc T S0.length)
  obtain ⟨cl, hcl⟩ : ∃ l, chosenL C ([jA, jB] ++ [jX]).length = l := ⟨_, rfl⟩
  obtain ⟨tl, htl⟩ : ∃ l, chosenL T S0.length = l := ⟨_, rfl⟩
  rw [hcl] at HI1 HCU HC1 ⊢
  rw [htl] at HI2 HCU HC2 ⊢
  clear hao hso hr1 hr2 hcut hcl htl HAD HPM3
  obtain ⟨S3, hS3⟩ : ∃ x, W3.heap.size = x := ⟨_, rfl⟩
  go_upto_region 5 with (fail)
  clear hS1 hS3 HB3
  obtain ⟨W6, hW6⟩ : ∃ W, W = W5.alloc (.cells #[.slice o1 cl.length c1, .slice o2 tl.length c2] 30) := ⟨_, rfl⟩
  have hb6 : Below W5.heap.size W5 W6 := by rw [hW6]; exact below_alloc (Below.refl _ _) _
  have HK6 := Lib.hid (show Blk W6 W5.heap.size 30 #[.slice o1 cl.length c1, .slice o2 tl.length c2] by rw [hW6]; exact Blk.new ..)
  have HB6 := Lib.hid (below_step HB5.out hb6)
  have HPM6 := Lib.hid (HPM5.out.later hb6)
  have HI16 := Lib.hid (HI1.out.later hb6)
  have HI26 := Lib.hid (HI2.out.later hb6)
  rw [← hW6]
  clear hW6 hb6 HB5 HPM5 HI1 HI2
  obtain ⟨C7, hC7⟩ : ∃ x, W5.heap.size = x := ⟨_, rfl⟩
  rw [hC7] at HK6 ⊢
  clear hC7
  have HS0 := Lib.hid (show W6.heap.size ≤ W6.heap.size from Nat.le_refl _)
  have HNWa := Lib.hid (show 0 + [jA, jB].length ≤ 1000000 by decide)
  have HNWb := Lib.hid (show [jA, jB].length + 1 ≤ 1000000 by decide)
  have HKP := Lib.hid (fun (wr : World) (hb : Below W6.heap.size W6 wr) => HX0.out wr (below_step HB6.out hb))
  refine wp_region_maskF [0, 2, 4, 5, 6] [false, true, false, true, false, false, false] (fun w'' => Below W6.heap.size W6 w'') mixed (by kernel_rfl) ?_
  intro KR hR
  have HR := Lib.hid hR
  clear hR
  simp only [marked]
  apply wpM_val rfl
  · (intro w' hw'; go_simp; with_reducible rfl)
  simp only [Act.put, List.setIfInBounds_toArray, List.set_cons_zero, List.set_cons_succ]
  apply wpM_val rfl
  · (intro w' hw'; obtain ⟨x0, x1, x2, x3, x4⟩ := HKP.out w' hw'; clear hw'; go_simp; with_reducible rfl)
  simp only [Act.put, List.setIfInBounds_toArray, List.set_cons_zero, List.set_cons_succ]
  refine wpM_nil (HR.out _ ?_)
  clear HR
  refine wpF_inv (fun rest V wr => ∃ v0 x y u f, V = ({ tmps := #[.bool false, .slice (some ⟨w.heap.size, 0, none⟩) 2 2, .pointer (some ⟨w.heap.size + 1, 0, none⟩), .slice (some ⟨OB, 0, none⟩) 2 2, .pointer (some ⟨C4, 0, none⟩), .int .i64 0, .slice none 0 0, .pointer (some ⟨C7, 0, none⟩), .int .i64 10, f, undef, undef, undef, .agg #[.int .i64 0, .int .i64 2, .int .i64 10, .int .i64 10, .int .i64 1], .agg #[.int .i64 0, .int .i64 2, .int .i64 10, .int .i64 10, .int .i64 3], .slice (some ⟨w.heap.size, 0, none⟩) 2 2, .agg #[.int .i64 0, .int .i64 1, .int .i64 5, .int .i64 5, .int .i64 2], .tuple #[.slice (some ⟨OB, 0, none⟩) 2 2, .agg #[.slice none 0 0, .slice none 0 0], .int .i64 0], .slice (some ⟨w.heap.size, 0, none⟩) 2 2, .slice (some ⟨S1, 0, none⟩) 2 2, .tuple #[.slice (some ⟨OB, 0, none⟩) 2 2, .agg #[.slice none 0 0, .slice none 0 0], .int .i64 0], .slice (some ⟨OB, 0, none⟩) 2 2, .agg #[.slice none 0 0, .slice none 0 0], .int .i64 0, .tuple #[.slice none 0 0, .agg #[.slice o1 cl.length c1, .slice o2 tl.length c2], .int .i64 10], .slice (some ⟨w.heap.size, 0, none⟩) 2 2, .slice (some ⟨S3, 0, none⟩) 2 2, .agg #[.int .i64 0, .int .i64 1, .int .i64 5, .int .i64 5, .int .i64 2], .tuple #[.slice none 0 0, .agg #[.slice o1 cl.length c1, .slice o2 tl.length c2], .int .i64 10], .slice none 0 0, .agg #[.slice o1 cl.length c1, .slice o2 tl.length c2], .int .i64 10, v0, .slice (some ⟨w.heap.size, 0, none⟩) 2 2, x, .agg #[.int .i64 0, .int .i64 1, .int .i64 5, .int .i64 5, .int .i64 2], y, u, undef, undef, undef, undef, undef, undef, undef, undef, undef, undef, undef, undef, undef, undef, undef, undef, undef, undef, undef, undef, undef, undef, undef, undef, undef, undef, undef, undef, undef, undef, undef, undef, undef, undef, undef, undef, undef, undef, undef, undef, undef, undef, undef, undef, undef, undef, undef, undef, undef, undef, undef], defers := [] } : Act) ∧ AppZ W6.heap.size W6 wr 27 5 rest 0 2 4 5 6 (0 + [jA, jB].length) ([] ++ flatJ [jA, jB]) #[.int .i64 0, .int .i64 1, .int .i64 5, .int .i64 5, .int .i64 2] v0 x y u f (0 + [jA, jB].length + 1) ([] ++ flatJ [jA, jB] ++ (flatJ [jX]))) [0, 2, 4, 5, 6] ?actJ ?actS ?actF _ _ _ _ rfl (by decide) (fun _ h => h) ⟨_, _, _, _, _, rfl, .inl ⟨by decide, by decide, (Below.refl _ _).drew, Nat.le_refl _, fun h => absurd (by decide) h⟩⟩
  case actJ =>
    rintro rest V wr ⟨v0, x, y, u, f, rfl, hI⟩
    exact hI.bel
  case actS =>
    rintro rest V wr c hnd hC ⟨v0, x, y, u, f, rfl, hI⟩ hc hf
    have hcc := hC c hc
    simp only [List.mem_cons, List.not_mem_nil, or_false] at hcc
    rcases hcc with rfl | rfl | rfl | rfl | rfl
    · refine ⟨_, rfl, rfl, stepC_val (v := .slice (some ⟨wr.heap.size, 0, none⟩) 0 0) (w' := wr.alloc (.cells #[] 27)) ?_ ?_⟩
      · clear hI; go_simp
      · simp only [Act.put, List.setIfInBounds_toArray]
        exact ⟨_, _, _, _, _, rfl, hI.lit hnd hc (by decide) HS0.out⟩
    · have hz : 0 ∉ rest := freeC_done hf (by kernel_rfl)
      obtain ⟨hv, hA⟩ := hI.in' hz
      obtain ⟨hr0, hs0⟩ := hA.row0 hc
      obtain ⟨x', w', hr, ho, hg, hat⟩ := run_appV elemJ (by decide) hr0 (Nat.le_trans HS0.out hs0) (jobs_src (HJM.out wr (below_step HB6.out hI.bel)) (fun h => by cases h)) (fun a h => by cases h; rfl) (flatJ_one [jA, jB]) HNWa.out 22
      refine ⟨_, rfl, rfl, stepC_val (v := x') (w' := w') ?_ ?_⟩
      · exact exec_append _ _ rfl hr
      · simp only [Act.put, List.setIfInBounds_toArray]
        exact ⟨_, _, _, _, _, rfl, AppZ.out' hz hv (hA.first hnd hc (by decide) HS0.out ho hg hat)⟩
    · refine ⟨_, rfl, rfl, stepC_val (v := .slice (some ⟨wr.heap.size, 0, none⟩) 1 1) (w' := wr.alloc (.cells #[.int .i64 0, .int .i64 1, .int .i64 5, .int .i64 5, .int .i64 2] 27)) ?_ ?_⟩
      · clear hI; go_simp
      · simp only [Act.put, List.setIfInBounds_toArray]
        exact ⟨_, _, _, _, _, rfl, hI.second hnd hc (by decide) HS0.out⟩
    · have hz : 0 ∉ rest := fun hm => by
        have h1 : 2 ∉ rest := freeC_done hf (by kernel_rfl)
        rcases hI with ⟨_, h2, _⟩ | ⟨h2, _⟩
        · exact h1 h2.1
        · exact h2 hm
      have h2 : 2 ∉ rest := freeC_done hf (by kernel_rfl)
      have h4 : 4 ∉ rest := freeC_done hf (by kernel_rfl)
      obtain ⟨hv, hA⟩ := hI.in' hz
      obtain ⟨hs0, hr0, X, rfl, hX⟩ := hA.parts hc h2 h4
      obtain ⟨z', w', hr, ho, hg, hat⟩ := run_appV elemJ (by decide) hr0 (Nat.le_trans HS0.out hs0) (one_src (cs := (flatJ [jX])) hX rfl) (fun a ha => by cases ha; rfl) (flatJ_one [jX]) (by rw [Nat.zero_add]; exact HNWb.out) 22
      refine ⟨_, rfl, rfl, stepC_val (v := z') (w' := w') ?_ ?_⟩
      · exact exec_append _ _ rfl hr
      · simp only [Act.put, List.setIfInBounds_toArray]
        exact ⟨_, _, _, _, _, rfl, AppZ.out' hz hv (hA.third hnd hc h2 h4 (by decide) HS0.out ho hg)⟩
    · have h5 : 5 ∉ rest := freeC_done hf (by kernel_rfl)
      have hz : 0 ∉ rest := fun hm => by
        rcases hI with ⟨_, h2, _⟩ | ⟨h2, _⟩
        · exact h5 h2.2.1
        · exact h2 hm
      obtain ⟨hv, hA⟩ := hI.in' hz
      refine ⟨_, rfl, rfl, stepC_val (v := u) (w' := wr) ?_ ?_⟩
      · clear hI hA; go_simp
      · simp only [Act.put, List.setIfInBounds_toArray]
        exact ⟨_, _, _, _, _, rfl, AppZ.out' hz hv (hA.fourth h5)⟩
  case actF =>
  rintro V W7 ⟨v0, x, y, u, f, rfl, hI⟩
  obtain ⟨rfl, hb7, hrow⟩ := hI.fin
  clear hI HKP HNWa HNWb HS0
  obtain ⟨oa, ca, rfl, _⟩ := ownsRow_shapeQ hrow
  have HRA := Lib.hid (show W7.ownsRow W6.heap.size 27 5 (.slice oa 3 ca) 3 (flatJ ([jA, jB] ++ [jX])) from hrow)
  have HB7 := Lib.hid (below_step HB6.out hb7)
  have HPM7 := Lib.hid (HPM6.out.later hb7)
  have HK7 := Lib.hid (HK6.out.later hb7)
  have HI17 := Lib.hid (HI16.out.later hb7)
  have HI27 := Lib.hid (HI26.out.later hb7)
  clear hb7 hrow HPM6 HK6 HI16 HI26
  have HKE := Lib.hid (show Calls Try.prog 13 #[.slice oa 3 ca, .slice (some ⟨W7.heap.size, 0, none⟩) 2 2] (W7.alloc (.cells #[.int .i64 10, .int .i64 10] 3)) (fun e w' => KeepOut (W7.alloc (.cells #[.int .i64 10, .int .i64 10] 3)) w' ([jA, jB] ++ [jX]) S0 e) from keep_any _ ([jA, jB] ++ [jX]) S0 oa (some ⟨W7.heap.size, 0, none⟩) ca 2 ((row_jobs HRA.out).later (below_alloc (Below.refl _ _) _)) (two_ints (Blk.new ..)) v3)
  go_wp2_with fail
  refine HKE.out.mono ?_
  rintro _ W8 hko
  obtain ⟨K, CL, kv, cv, vs, rfl, hkf, hkr, hcm⟩ := hko.ex
  obtain ⟨hK, hCL⟩ := keeps3 hkf
  have hb8 : Below W7.heap.size W7 W8 := below_step (below_alloc (Below.refl _ _) _) hko.bel
  have HB8 := Lib.hid (below_step HB7.out hb8)
  have HPM8 := Lib.hid (HPM7.out.later hb8)
  have HK8 := Lib.hid (HK7.out.later hb8)
  have HI18 := Lib.hid (HI17.out.later hb8)
  have HI28 := Lib.hid (HI27.out.later hb8)
  have HRA8 := Lib.hid (ownsRow_later HRA.out hb8)
  subst hK
  obtain ⟨gk, ck, rfl⟩ := row_some hkr (by decide)
  have HKI := Lib.hid (row_ints hkr)
  have hcr := hcm.row
  rw [hCL] at hcr
  obtain ⟨ov, oc, rfl, _⟩ := ownsRow_shapeQ hcr
  clear hko hkf hkr hcm hcr hCL hb8 HB7 HPM7 HK7 HI17 HI27 HRA HKE
  have HCP := Lib.hid (show Calls Try.prog 9 #[.slice (some ⟨w.heap.size, 0, none⟩) 2 2, .slice (some ⟨W8.heap.size, 0, none⟩) 2 2, .slice (some ⟨OB, 0, none⟩) 2 2] (W8.alloc (.cells #[.int .i64 10, .int .i64 10] 3)) (Ret (.bool true) (W8.alloc (.cells #[.int .i64 10, .int .i64 10] 3))) from checkPlan_ok _ [jA, jB] S0 P (some ⟨w.heap.size, 0, none⟩) (some ⟨W8.heap.size, 0, none⟩) (some ⟨OB, 0, none⟩) 2 2 2 (HJM.out _ (below_alloc HB8.out _)) (two_ints (Blk.new ..)) (HPM8.out.later (below_alloc (Below.refl _ _) _)) v2 HPO.out)
  go_wp2_with fail
  refine HCP.out.mono ?_
  rintro _ W9 ⟨rfl, hb9⟩
  have hb9a : Below W8.heap.size W8 W9 := below_step (below_alloc (Below.refl _ _) _) hb9
  have hba : Below W8.heap.size W8 (W9.alloc (.cells #[.int .i64 10, .int .i64 10] 3)) := below_alloc hb9a _
  have k0 : (W9.alloc (.cells #[.int .i64 10, .int .i64 10] 3)).cell? ⟨C7, 0, none⟩ = some (.slice o1 cl.length c1) := (HK8.out.later hba).cell 0
  have k1 : (W9.alloc (.cells #[.int .i64 10, .int .i64 10] 3)).cell? ⟨C7, 1, none⟩ = some (.slice o2 tl.length c2) := (HK8.out.later hba).cell 1
  have HCC := Lib.hid (show Calls Try.prog 10 #[.slice oa 3 ca, .slice (some ⟨W9.heap.size, 0, none⟩) 2 2, .agg #[.slice o1 cl.length c1, .slice o2 tl.length c2]] (W9.alloc (.cells #[.int .i64 10, .int .i64 10] 3)) (Ret (.bool true) (W9.alloc (.cells #[.int .i64 10, .int .i64 10] 3))) from checkCut_ok _ ([jA, jB] ++ [jX]) S0 cl tl oa (some ⟨W9.heap.size, 0, none⟩) o1 o2 ca 2 c1 c2 ((row_jobs HRA8.out).later hba) (two_ints (Blk.new ..)) (HI18.out.later hba) (HI28.out.later hba) v3 HC1.out HC2.out HCU.out)
  have HBA := Lib.hid hba
  clear hb9 hb9a hba HCP
  go_wp2_with fail
  refine HCC.out.mono ?_
  rintro _ W10 ⟨rfl, hb10⟩
  have HB10 := Lib.hid (below_step HBA.out hb10)
  have HBF := Lib.hid (below_step HB8.out HB10.out)
  have HBG := Lib.hid (below_step HB1.out HBF.out)
  have q0 : W10.cell? ⟨gk, 0, none⟩ = some (.int .i64 0) := by
    obtain ⟨b, off, h1, h2⟩ := (HKI.out.later HB10.out) 0 (by decide)
    cases h1
    exact h2
  have q1 : W10.cell? ⟨gk, 1, none⟩ = some (.int .i64 2) := by
    obtain ⟨b, off, h1, h2⟩ := (HKI.out.later HB10.out) 1 (by decide)
    cases h1
    exact h2
  clear hb10 HCC k0 k1
  go_wp2
  go_ret
  exact ⟨rfl, HBG.out⟩
end Go.Proofs.Ythgkfdhkmkbioaa
