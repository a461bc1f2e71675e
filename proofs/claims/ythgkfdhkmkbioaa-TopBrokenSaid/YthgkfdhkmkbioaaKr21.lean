/- Package replan: one try of Keep. -/
import Derived.Test.YthgkfdhkmkbioaaKq21
namespace Go.Proofs.Ythgkfdhkmkbioaa
open Go.RowKit Go.Shelf
attribute [local go_sem] Oper.semAt_some

/-- What one try leaves behind. -/
def TryOut (w : World) (KB JB SB CB : Nat) (J : List Jb) (S : List Int) (oj os : Option Addr) (cj cs : Nat) (ov : Value) (ol : List Int) (K : List Nat) (CL : List Ct) (kv cv : Value) (i : Nat) (e : Ending) (W' : World) : Prop :=
  e = .returned (.tuple #[]) ∧ ((Feas (pickJ J (K ++ [i])) S ∧ ∃ kv', KeM w W' KB JB SB CB oj J.length cj os S.length cs ov ol (K ++ [i]) CL kv' cv) ∨ (∃ cl tl cv', CutFor J S K i cl tl ∧ ¬ Feas (pickJ J (K ++ [i])) S ∧ KeM w W' KB JB SB CB oj J.length cj os S.length cs ov ol K (CL ++ [(i, cl, tl)]) kv cv'))
theorem natI_one (K : List Nat) (i : Nat) : intsV (natI K) ++ [.int .i64 ((i : Nat) : Int)] = intsV (natI (K ++ [i])) := by simp [intsV, natI]
theorem row_some {W : World} {base n : Nat} {t : TypeId} {s : Nat} {v : Value} {xs : List Value} (h : W.ownsRow base t s v n xs) (hn : 0 < n) : ∃ g c, v = .slice (some ⟨g, 0, none⟩) n c := by
  rcases h.2 with ⟨_, h1⟩ | ⟨g, c, cur, rfl, _⟩
  · omega
  · exact ⟨g, c, rfl⟩
/-- While the broken ones are named. -/
def NmI (W3 wr : World) (cl l : List Nat) (k : Nat) (nv : Value) : Prop := Below W3.heap.size W3 wr ∧ wr.ownsRow W3.heap.size 3 1 nv k (intsV (natI ((cl.take k).map fun p => l.getD p 0)))
set_option maxRecDepth 100000 in
set_option maxHeartbeats 16000000 in
theorem try_any (w W : World) (KB JB SB CB : Nat) (J : List Jb) (S : List Int) (oj os : Option Addr) (cj cs : Nat) (ov : Value) (ol : List Int) (K : List Nat) (CL : List Ct) (kv cv : Value) (i : Nat) (hm : KeM w W KB JB SB CB oj J.length cj os S.length cs ov ol K CL kv cv) (hj : JobsM W oj J) (hs : Ints W os S) (hv : ValidP J S) (hK : (K ++ [i]).Nodup ∧ (∀ x ∈ K ++ [i], x < J.length) ∧ (K ++ [i]).length ≤ J.length) (hf : Feas (pickJ J K) S) (hCL : CL.length ≤ 12) :
    Calls Try.prog 29 #[.int .i64 (i : Nat), .pointer (some ⟨KB, 0, none⟩), .pointer (some ⟨JB, 0, none⟩), .pointer (some ⟨SB, 0, none⟩), .pointer (some ⟨CB, 0, none⟩)] W (TryOut w KB JB SB CB J S oj os cj cs ov ol K CL kv cv i) := by
  have HM := Lib.hid hm
  have HJ := Lib.hid hj
  have HS := Lib.hid hs
  have HV := Lib.hid hv
  have HK := Lib.hid hK
  have HF := Lib.hid hf
  have hn12 := hv.j12
  have hm24 := hv.s24
  have hkl : K.length + 1 ≤ 12 := by have := hK.2.2; rw [List.length_append, List.length_singleton] at this; omega
  clear hm hj hs hv hK hf
  have k0 := HM.out.kb.cell 0
  go_enter Try.func29, Try.ntmps29
  have HCL := Lib.hid (cloneK_any HM.out.kr HM.out.kn (by omega))
  go_wp2_with fail
  refine HCL.out.mono ?_
  rintro _ W1 ⟨hb1, v1, rfl, hr1⟩
  rw [natI_length] at hr1
  have HR1 := Lib.hid hr1
  have HB1 := Lib.hid hb1
  have HBS := Lib.hid hb1.size
  clear hb1 hr1 HCL k0
  have HN1 := Lib.hid (show K.length + 1 ≤ 1000000000 by omega)
  go_wp2_with (at_builtin; refine wp_append1O (news := [.int .i64 (i : Nat)]) elemI HR1.out HBS.out HN1.out (by decide) rfl (oneI _) rfl _ _ rfl rfl rfl rfl ?_)
  intro v2 W2 hr2 hg2 _
  have hb2 : Below W.heap.size W W2 := (below_step HB1.out (below_alloc (Below.refl _ _) _)).grown hg2 (by rw [World.size_alloc]; have := HB1.out.size; omega) (fun b e => (HR1.out.lt b e).1)
  have HR2 : Hid (W2.ownsRow W.heap.size 3 1 v2 (K.length + 1) (intsV (natI (K ++ [i])))) := Lib.hid (ownsRow_cast hr2 rfl (natI_one K i))
  have HM2 := Lib.hid (HM.out.later hb2)
  have HB2 := Lib.hid hb2
  obtain ⟨o2, c2, rfl, _⟩ := ownsRow_shapeQ hr2
  clear hr2 hg2 hb2 HR1 HB1 HBS
  go_upto_region 1 with (fail)
  have HS2 := Lib.hid (HS.out.later HB2.out)
  have HSOM := Lib.hid (fun (wr : World) (hb : Below W2.heap.size W2 wr) => some_any J (K ++ [i]) oj o2 cj c2 wr ((HJ.out.later HB2.out).later hb) ((row_ints HR2.out).later hb) (by omega) (by have := HK.out.2.2; omega) HK.out.2.1)
  have HVW := Lib.hid (pick_valid HV.out HK.out.2.1 (by have := HK.out.2.2; omega))
  have hkl2 : (K ++ [i]).length = K.length + 1 := by simp
  rw [hkl2] at HSOM
  obtain ⟨JW, hJW⟩ : ∃ x, pickJ J (K ++ [i]) = x := ⟨_, rfl⟩
  rw [hJW] at HSOM HVW
  have HJW := Lib.hid hJW
  obtain ⟨XB, hXB⟩ : ∃ x, W1.heap.size = x := ⟨_, rfl⟩
  rw [hXB]
  clear hJW hXB hkl2
  have HJF := Lib.hid (show ∀ w'', Below W2.heap.size W2 w'' → w''.cell? ⟨JB, 0, none⟩ = some (.slice oj J.length cj) ∧ w''.cell? ⟨SB, 0, none⟩ = some (.slice os S.length cs) from fun w'' hb => ⟨(HM2.out.jb.later hb).cell 0, (HM2.out.sb.later hb).cell 0⟩)
  refine wp_region_maskF [2, 4, 5, 6, 7, 8, 9, 10, 11, 12] [true, true, false, true, false, false, false, false, false, false, false, false, false] (fun w'' => w''.cell? ⟨JB, 0, none⟩ = some (.slice oj J.length cj) ∧ w''.cell? ⟨SB, 0, none⟩ = some (.slice os S.length cs)) mixed (by kernel_rfl) ?_
  intro KR hR
  have HR := Lib.hid hR
  clear hR
  simp only [marked]
  apply wpM_val rfl
  · (intro w' hw'; obtain ⟨c0, c1⟩ := hw'; go_simp; with_reducible rfl)
  simp only [Act.put, List.setIfInBounds_toArray, List.set_cons_zero, List.set_cons_succ]
  apply wpM_val rfl
  · (intro w' hw'; go_simp; with_reducible rfl)
  simp only [Act.put, List.setIfInBounds_toArray, List.set_cons_zero, List.set_cons_succ]
  apply wpM_val rfl
  · (intro w' hw'; obtain ⟨c0, c1⟩ := hw'; go_simp; with_reducible rfl)
  simp only [Act.put, List.setIfInBounds_toArray, List.set_cons_zero, List.set_cons_succ]
  refine wpM_nil (HR.out _ ?_)
  clear HR
  refine wpF_inv (fun rest V wr => ∃ x21 x23 x18 x24 x25 x26 x8 x7 x9, V = ({ tmps := #[.int .i64 (i : Nat), .pointer (some ⟨KB, 0, none⟩), .pointer (some ⟨JB, 0, none⟩), .pointer (some ⟨SB, 0, none⟩), .pointer (some ⟨CB, 0, none⟩), undef, .slice o2 (K.length + 1) c2, x7, x8, x9, undef, undef, undef, kv, v1, .int .i64 (i : Nat), .slice (some ⟨XB, 0, none⟩) 1 1, .slice o2 (K.length + 1) c2, x18, .slice oj J.length cj, .slice o2 (K.length + 1) c2, x21, .slice os S.length cs, x23, x24, x25, x26, undef, undef, undef, undef, undef, undef, undef, undef, undef, undef, undef, undef, undef, undef, undef, undef, undef, undef, undef, undef, undef, undef, undef, undef, undef, undef, undef, undef, undef, undef, undef], defers := [] } : Act) ∧ KtI W2 wr JW S rest x21 x23 x18 x24 x25 x26 x8 x7 x9) [2, 4, 5, 6, 7, 8, 9, 10, 11, 12] ?actJ ?actS ?actF _ _ _ _ rfl (by decide) (fun _ h => h) ⟨undef, undef, undef, undef, undef, undef, undef, undef, undef, rfl, KtI.start (Below.refl _ _).drew⟩
  case actJ =>
    rintro rest V wr ⟨x21, x23, x18, x24, x25, x26, x8, x7, x9, rfl, hI⟩
    exact HJF.out wr hI.bel
  case actS =>
    rintro rest V wr c hnd hC ⟨x21, x23, x18, x24, x25, x26, x8, x7, x9, rfl, hI⟩ hc hf
    have hcc := hC c hc
    simp only [List.mem_cons, List.not_mem_nil, or_false] at hcc
    rcases hcc with rfl | rfl | rfl | rfl | rfl | rfl | rfl | rfl | rfl | rfl
    · refine ⟨_, rfl, rfl, stepC_call (f := 31) (args := #[.slice oj J.length cj, .slice o2 (K.length + 1) c2]) (w' := wr) ?_ ?_⟩
      · have hI := Lib.hid hI; go_simp
      · refine (HSOM.out wr hI.bel).mono ?_
        rintro e w2 ⟨hb, v, rfl, hrow⟩
        obtain ⟨o, c, rfl, _⟩ := ownsRow_shapeQ hrow
        refine ⟨_, rfl, ?_⟩
        simp only [Act.put, List.setIfInBounds_toArray]
        exact ⟨_, _, _, _, _, _, _, _, _, rfl, hI.s2 hnd hc hb ⟨o, c, rfl, row_jobs hrow⟩⟩
    · have h2 : 2 ∉ rest := freeC_done hf (by kernel_rfl)
      obtain ⟨o, c, rfl, hjm⟩ := hI.f2 h2 hc
      refine ⟨_, rfl, rfl, stepC_call (f := 8) (args := #[.slice o JW.length c, .slice os S.length cs]) (w' := wr) ?_ ?_⟩
      · have hI := Lib.hid hI; have hjm := Lib.hid hjm; go_simp
      · refine (sched_any wr JW S o os c cs hjm (HS2.out.later hI.bel) HVW.out).mono ?_
        rintro e w2 hso
        obtain ⟨v, rfl⟩ := hso.val
        refine ⟨_, rfl, ?_⟩
        simp only [Act.put, List.setIfInBounds_toArray]
        exact ⟨_, _, _, _, _, _, _, _, _, rfl, hI.s4 hnd hc hso.bel (hso.mono hI.bel)⟩
    · have h4 : 4 ∉ rest := freeC_done hf (by kernel_rfl)
      refine ⟨_, rfl, rfl, stepC_val (v := x23) (w' := wr) ?_ ?_⟩
      · clear hI; go_simp
      · simp only [Act.put, List.setIfInBounds_toArray]
        exact ⟨_, _, _, _, _, _, _, _, _, rfl, hI.s5 hnd hc h4 rfl⟩
    · have h5 : 5 ∉ rest := freeC_done hf (by kernel_rfl)
      obtain ⟨h4, rfl⟩ := hI.f5 h5
      obtain ⟨p, q, r, rfl⟩ := (hI.f4 h4).shape
      refine ⟨_, rfl, rfl, stepC_val (v := p) (w' := wr) ?_ ?_⟩
      · clear hI; go_simp
      · simp only [Act.put, List.setIfInBounds_toArray]
        exact ⟨_, _, _, _, _, _, _, _, _, rfl, hI.s6 hnd hc h5 rfl⟩
    · have h5 : 5 ∉ rest := freeC_done hf (by kernel_rfl)
      obtain ⟨h4, rfl⟩ := hI.f5 h5
      obtain ⟨p, q, r, rfl⟩ := (hI.f4 h4).shape
      refine ⟨_, rfl, rfl, stepC_val (v := q) (w' := wr) ?_ ?_⟩
      · clear hI; go_simp
      · simp only [Act.put, List.setIfInBounds_toArray]
        exact ⟨_, _, _, _, _, _, _, _, _, rfl, hI.s7 hnd hc h5 rfl⟩
    · have h5 : 5 ∉ rest := freeC_done hf (by kernel_rfl)
      obtain ⟨h4, rfl⟩ := hI.f5 h5
      obtain ⟨p, q, r, rfl⟩ := (hI.f4 h4).shape
      refine ⟨_, rfl, rfl, stepC_val (v := r) (w' := wr) ?_ ?_⟩
      · clear hI; go_simp
      · simp only [Act.put, List.setIfInBounds_toArray]
        exact ⟨_, _, _, _, _, _, _, _, _, rfl, hI.s8 hnd hc h5 rfl⟩
    · refine ⟨_, rfl, rfl, stepC_val (v := .pointer (some ⟨wr.heap.size, 0, none⟩)) (w' := wr.alloc (.cells #[.slice none 0 0, .slice none 0 0] 30)) ?_ ?_⟩
      · clear hI; go_simp
      · simp only [Act.put, List.setIfInBounds_toArray]
        exact ⟨_, _, _, _, _, _, _, _, _, rfl, hI.s9 hnd hc⟩
    · have h6 : 6 ∉ rest := freeC_done hf (by kernel_rfl)
      refine ⟨_, rfl, rfl, stepC_val (v := x24) (w' := wr) ?_ ?_⟩
      · clear hI; go_simp
      · simp only [Act.put, List.setIfInBounds_toArray]
        exact ⟨_, _, _, _, _, _, _, _, _, rfl, hI.s10 hnd hc h6 rfl⟩
    · have h7 : 7 ∉ rest := freeC_done hf (by kernel_rfl)
      have h9 : 9 ∉ rest := freeC_done hf (by kernel_rfl)
      obtain ⟨A, rfl, e2, e3, _⟩ := hI.f9 h9
      obtain ⟨h5, hx⟩ := hI.f7 h7
      obtain ⟨p, q1, q2, q3, q4, q5, q6, r, hy⟩ := (hI.f4 (hI.f5 h5).1).shape2
      rw [hy] at hx
      obtain rfl : x25 = .agg #[.slice q1 q2 q3, .slice q4 q5 q6] := hx
      have hB := e3 hc
      have g0 : wr.cell? ⟨A, 0, none⟩ = some (.slice none 0 0) := hB.cell 0
      have g1 : wr.cell? ⟨A, 1, none⟩ = some (.slice none 0 0) := hB.cell 1
      have f0 := hB.frozen
      refine ⟨_, rfl, rfl, stepC_skip (w' := (wr.setCell ⟨A, 0, none⟩ (.slice q1 q2 q3)).setCell ⟨A, 1, none⟩ (.slice q4 q5 q6)) rfl ?_ ?_⟩
      · clear hI hB hy; go_simp
      · exact ⟨_, _, _, _, _, _, _, _, _, rfl, hI.s11 hnd hc h7 h9 rfl rfl⟩
    · have h8 : 8 ∉ rest := freeC_done hf (by kernel_rfl)
      refine ⟨_, rfl, rfl, stepC_val (v := x26) (w' := wr) ?_ ?_⟩
      · clear hI; go_simp
      · simp only [Act.put, List.setIfInBounds_toArray]
        exact ⟨_, _, _, _, _, _, _, _, _, rfl, hI.s12 hnd hc h8 rfl⟩
  case actF =>
  rintro V W3 ⟨x21, x23, x18, x24, x25, x26, x8, x7, x9, rfl, hI⟩
  obtain ⟨_, rfl⟩ := hI.f5 (by simp)
  obtain ⟨_, rfl⟩ := hI.f10 (by simp)
  obtain ⟨_, rfl⟩ := hI.f12 (by simp)
  obtain ⟨_, e24⟩ := hI.f6 (by simp)
  obtain ⟨_, e25⟩ := hI.f7 (by simp)
  obtain ⟨_, e26⟩ := hI.f8 (by simp)
  obtain ⟨A, rfl, hA, _, hAb⟩ := hI.f9 (by simp)
  obtain ⟨qa, qb, ex, hblk⟩ := hAb (by simp)
  have hso := hI.f4 (by simp)
  have HM3 := Lib.hid (HM2.out.later hI.bel)
  have HB3 := Lib.hid (below_step HB2.out hI.bel)
  have HR3 := Lib.hid ((ownsRow_later HR2.out hI.bel).mono (base' := w.heap.size) HM.out.bel.size)
  have HAB := Lib.hid hblk
  have HSZ2 := Lib.hid HM2.out.bel.size
  clear hI hAb hblk HJF HSOM HS2 HVW HM2 HR2
  rcases hso.ex with ⟨AL, OB, L, P, h1, _, _, _, _, _, hP⟩ | ⟨q1, q2, C, T, h1, h2, h3, hcut⟩
  · injection h1 with h1
    subst h1
    obtain rfl : x9 = .int .i64 0 := e26
    have HFE : Hid (Feas (pickJ J (K ++ [i])) S) := Lib.hid ⟨P, by rw [HJW.out]; exact hP⟩
    have k3 := HM3.out.kb.cell 0
    have kf := HM3.out.kb.frozen 0
    have HEND := Lib.hid (HM3.out.keep HR3.out)
    clear hso e24 e25 ex hP HAB
    go_wp2
    go_end0
    exact ⟨rfl, .inl ⟨HFE.out, _, HEND.out⟩⟩
  · obtain ⟨o3, c3, rfl, _⟩ := ownsRow_shapeQ h2
    obtain ⟨o4, c4, rfl, _⟩ := ownsRow_shapeQ h3
    injection h1 with h1
    subst h1
    obtain rfl : x9 = .int .i64 10 := e26
    rw [e25] at ex
    have ex2 : Value.agg #[.slice o3 (chosenL C JW.length).length c3, .slice o4 (chosenL T S.length).length c4] = .agg #[qa, qb] := ex
    injection ex2 with ex2
    have ea : qa = .slice o3 (chosenL C JW.length).length c3 := by have := congrArg (·[0]?) ex2; simpa using this.symm
    have eb : qb = .slice o4 (chosenL T S.length).length c4 := by have := congrArg (·[1]?) ex2; simpa using this.symm
    subst ea
    subst eb
    have HCF := Lib.hid (cut_lift HV.out HK.out.1 HK.out.2.1 (by have := HK.out.2.2; omega) HF.out (by rw [HJW.out]; exact hcut))
    have HNF : Hid (¬ Feas (pickJ J (K ++ [i])) S) := Lib.hid (fun ⟨P, hP⟩ => plan_cut hP (by rw [HJW.out]; exact hcut))
    rw [HJW.out] at HCF
    have HI3 := Lib.hid (row_ints h2)
    have HR4 := Lib.hid (h3.mono (base' := w.heap.size) HSZ2.out)
    have HLC := Lib.hid (chosenL_inc C JW.length)
    have HJL := Lib.hid (show JW.length = K.length + 1 by rw [← HJW.out, pickJ_len]; simp)
    have hcle : (chosenL C JW.length).length ≤ 12 := Nat.le_trans (chosenL_le C JW.length) (by rw [HJL.out]; exact hkl)
    have HWI := Lib.hid (row_ints HR3.out)
    clear hso e24 e25 ex ex2 hcut h2 h3
    obtain ⟨cl, hcl⟩ : ∃ l, chosenL C JW.length = l := ⟨_, rfl⟩
    obtain ⟨tl, htl⟩ : ∃ l, chosenL T S.length = l := ⟨_, rfl⟩
    rw [hcl] at HCF HI3 HLC hcle HAB ⊢
    rw [htl] at HCF HR4 HAB ⊢
    clear hcl htl
    have a0 := HAB.out.cell 0
    have a1 := HAB.out.cell 1
    have hmk := run_make0 (P := Try.prog) 23 3 (.int .i64 0) 1 8 Try.underlying23 (by kernel_rfl) cl.length (by omega) (by omega)
    have HR0 := Lib.hid (made0_row (w := W3) (e := 3) (z := .int .i64 0) (n := cl.length) (size := 1) (base := W3.heap.size) (Nat.le_refl _) (by omega) (size_madeCells _ _))
    obtain ⟨mcs, hmcs⟩ : ∃ c, madeCells (Value.int .i64 0).cells (cl.length * 1) = c := ⟨_, rfl⟩
    rw [hmcs] at hmk HR0
    have HBA := Lib.hid (below_alloc (Below.refl W3.heap.size W3) (.cells mcs 3))
    have HAA := Lib.hid (HAB.out.later HBA.out)
    have aa0 : (W3.alloc (.cells mcs 3)).cell? ⟨A, 0, none⟩ = some (.slice o3 cl.length c3) := HAA.out.cell 0
    clear hmcs
    go_wp2_with fail
    clear hmk a0 a1 aa0
    go_loopw [10, 37] (fun nv iv wr => ∃ k : Nat, k ≤ cl.length ∧ iv = .int .i64 k ∧ NmI W3 wr cl (K ++ [i]) k nv) (fun _ iv _ => cl.length - (intOf iv).toNat)
    case atStart => exact ⟨0, Nat.zero_le _, rfl, HBA.out, HR0.out⟩
    case round =>
      obtain ⟨k, hk, rfl, hb, hrow⟩ := hrel
      obtain ⟨wA, rfl⟩ : ∃ wA : World, wA = wr := ⟨_, rfl⟩
      clear HR0 HBA HAA
      have HB := Lib.hid hb
      have HR := Lib.hid hrow
      clear hb hrow
      by_cases hlt : k < cl.length
      · obtain ⟨b2, off2, rfl, t0⟩ := (HI3.out.later HB.out) k (by rw [natI_length]; exact hlt)
        rw [natI_get hlt] at t0
        have hpn := HLC.out.get hlt
        rw [HJL.out] at hpn
        have HTK := Lib.hid (show (cl.take (k + 1)).map (fun p => (K ++ [i]).getD p 0) = (cl.take k).map (fun p => (K ++ [i]).getD p 0) ++ [(K ++ [i]).getD (cl.getD k 0) 0] by rw [take_snocN hlt, List.map_append]; rfl)
        obtain ⟨p, hp⟩ : ∃ x, cl.getD k 0 = x := ⟨_, rfl⟩
        rw [hp] at t0 hpn HTK
        clear hp
        obtain ⟨b3, off3, rfl, w0⟩ := (HWI.out.later HB.out) p (by rw [natI_length, List.length_append, List.length_singleton]; omega)
        rw [natI_get (by rw [List.length_append, List.length_singleton]; omega)] at w0
        obtain ⟨x, hx⟩ : ∃ x, (K ++ [i]).getD p 0 = x := ⟨_, rfl⟩
        rw [hx] at w0 HTK
        clear hx
        obtain ⟨M, hM⟩ : ∃ M, (cl.take k).map (fun p => (K ++ [i]).getD p 0) = M := ⟨_, rfl⟩
        rw [hM] at HR HTK
        clear hM
        have y1 : (0 : Int) ≤ (k : Int) := by omega
        have y2 : (k : Int) < (cl.length : Int) := by omega
        have x1 : (0 : Int) ≤ (p : Int) := by omega
        have x2 : (p : Int) < ((K.length + 1 : Nat) : Int) := by omega
        have hsz := HB.out.size
        have HN2 := Lib.hid (show k + 1 ≤ 1000000000 by omega)
        go_wp2_with (at_builtin; refine wp_append1O (news := [.int .i64 (x : Nat)]) elemI HR.out hsz HN2.out (by decide) rfl (oneI _) rfl _ _ rfl rfl rfl rfl ?_)
        intro v5 w4 hr5 hgr _
        have hba : Below wA.heap.size wA (wA.alloc (.cells #[.int .i64 (x : Nat)] 3)) := below_alloc (Below.refl _ _) _
        have HB4 := Lib.hid ((below_step HB.out hba).grown hgr (by rw [World.size_alloc]; omega) (fun b e => (HR.out.lt b e).1))
        have HR5 : Hid (w4.ownsRow W3.heap.size 3 1 v5 (k + 1) (intsV (natI ((cl.take (k + 1)).map fun p => (K ++ [i]).getD p 0)))) := Lib.hid (by
          rw [HTK.out]
          exact ownsRow_cast hr5 rfl (natI_one M x))
        clear hr5 hgr hba
        go_wp2
        go_round
        case rel => exact ⟨k + 1, hlt, by go_num, HB4.out, HR5.out⟩
        case measure => exact meas_lt hlt
      · obtain rfl : k = cl.length := by omega
        rw [List.take_length] at HR
        have HNL := Lib.hid (sortN_len (cl.map fun p => (K ++ [i]).getD p 0))
        have hpos : 0 < cl.length := by
          have h1 := List.length_pos_of_mem HCF.out.mem
          rw [HNL.out, List.length_map] at h1
          exact h1
        obtain ⟨g, cap, rfl⟩ := row_some HR.out hpos
        obtain ⟨nl, hnl⟩ : ∃ l, cl.map (fun p => (K ++ [i]).getD p 0) = l := ⟨_, rfl⟩
        have hnll : nl.length = cl.length := by rw [← hnl, List.length_map]
        rw [hnl] at HR HCF HNL
        clear hnl
        have HSI := Lib.hid (sortN_int nl)
        have HST := Lib.hid (sort_any cl.length cap g W3.heap.size (natI nl) (by rw [natI_length]; exact hnll) (by omega) wA HR.out HB.out.size)
        have HNLL := Lib.hid hnll
        clear hpos hnll HI3 HWI
        go_wp2_with fail
        refine HST.out.mono ?_
        rintro _ W6 ⟨rfl, hb6, hr6⟩
        have HB6 := Lib.hid (HB.out.trans hb6)
        have HR6 : Hid (W6.ownsRow w.heap.size 3 1 (.slice (some ⟨g, 0, none⟩) cl.length cap) (sortN nl).length (intsV (natI (sortN nl)))) := Lib.hid (by
          rw [HSI.out, HNL.out, HNLL.out]
          exact hr6.mono HM3.out.bel.size)
        have HM6 := Lib.hid (HM3.out.later HB6.out)
        have HA6 := Lib.hid (HAB.out.later HB6.out)
        have HT6 := Lib.hid (ownsRow_later HR4.out HB6.out)
        clear hb6 hr6 HST HB HR
        obtain ⟨vs, hcm⟩ := HM6.out.cm
        have HCM := Lib.hid hcm
        clear hcm
        have a1 : W6.cell? ⟨A, 1, none⟩ = some (.slice o4 tl.length c4) := HA6.out.cell 1
        have b0 := HM6.out.cb.cell 0
        have hsz := HM6.out.bel.size
        have HN2 := Lib.hid (show CL.length + 1 ≤ 1000000000 by omega)
        go_wp2_with (at_builtin; refine wp_append1O (news := [.slice (some ⟨g, 0, none⟩) cl.length cap, .slice o4 tl.length c4]) elemC HCM.out.row hsz HN2.out (by decide) rfl (fun u hu => by simp at hu; rcases hu with rfl | rfl <;> rfl) rfl _ _ rfl rfl rfl rfl ?_)
        intro v7 W7 hr7 hg7 _
        obtain ⟨o7, c7, rfl, _⟩ := ownsRow_shapeQ hr7
        have HE := Lib.hid (HM6.out.cut HCM.out (i := i) HR6.out HT6.out hr7 hg7)
        have b7 : W7.cell? ⟨CB, 0, none⟩ = some cv := by
          have hal : Below W6.heap.size W6 (W6.alloc (.cells #[.slice (some ⟨g, 0, none⟩) cl.length cap, .slice o4 tl.length c4] 30)) := below_alloc (Below.refl _ _) _
          have h1 := HM6.out.cb.later hal
          have h2 : Blk W7 CB 44 #[cv] := (hg7.block _ h1.lt (fun e => Blk.not_row h1 (by decide) (HCM.out.later hal).row e.symm)).trans h1
          exact h2.cell 0
        have f7 : W7.frozen? ⟨CB, 0, none⟩ = false := by
          have hal : Below W6.heap.size W6 (W6.alloc (.cells #[.slice (some ⟨g, 0, none⟩) cl.length cap, .slice o4 tl.length c4] 30)) := below_alloc (Below.refl _ _) _
          have h1 := HM6.out.cb.later hal
          have h2 : Blk W7 CB 44 #[cv] := (hg7.block _ h1.lt (fun e => Blk.not_row h1 (by decide) (HCM.out.later hal).row e.symm)).trans h1
          exact h2.frozen 0
        clear hr7 hg7 a1 b0
        go_wp2
        go_end0
        exact ⟨rfl, .inr ⟨_, _, _, HCF.out, HNF.out, HE.out⟩⟩
end Go.Proofs.Ythgkfdhkmkbioaa
