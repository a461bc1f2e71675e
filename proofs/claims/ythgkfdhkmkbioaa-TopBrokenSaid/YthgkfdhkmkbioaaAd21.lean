/- Package admit: check and Admit. -/
import Derived.Test.YthgkfdhkmkbioaaRt21
import Derived.Test.YthgkfdhkmkbioaaPd21
namespace Go.Proofs.Ythgkfdhkmkbioaa
open Go.RowKit Go.Shelf
attribute [local go_sem] Oper.semAt_some

/-- The jobs can be met. -/
def Feas (J : List Jb) (S : List Int) : Prop := ∃ P, PlanOk J S P
theorem SchedOut.mono {w0 w w' : World} {J : List Jb} {S : List Int} {e : Ending} (h : SchedOut w w' J S e) (hb : Below w0.heap.size w0 w) : SchedOut w0 w' J S e := by
  refine ⟨below_step hb h.bel, ?_⟩
  rcases h.ex with ⟨AL, OB, L, P, h1, h2, h3⟩ | ⟨v1, v2, C, T, h1, h2, h3, h4⟩
  · exact .inl ⟨AL, OB, L, P, h1, ⟨Nat.le_trans hb.size h2.1, Nat.le_trans hb.size h2.2⟩, h3⟩
  · exact .inr ⟨v1, v2, C, T, h1, h2.mono hb.size, h3.mono hb.size, h4⟩
theorem SchedOut.set {w W : World} {J : List Jb} {S : List Int} {e : Ending} (h : SchedOut w W J S e) {C : Nat} {cs : Array Value} (hC : Blk W C 30 cs) (hl : w.heap.size ≤ C) (i : Nat) (u : Value) : SchedOut w (W.setCell ⟨C, i, none⟩ u) J S e := by
  refine ⟨h.bel.setCell hl _, ?_⟩
  rcases h.ex with ⟨AL, OB, L, P, h1, h2, h3, h4, h5⟩ | ⟨v1, v2, C1, T, h1, h2, h3, h4⟩
  · exact .inl ⟨AL, OB, L, P, h1, h2, h3.other (p := ⟨C, i, none⟩) (Blk.ne h3 hC (by decide)) u, h4.other (p := ⟨C, i, none⟩) (Blk.ne h4 hC (by decide)) u, h5⟩
  · exact .inr ⟨v1, v2, C1, T, h1, ownsRow_setCell_other (a := ⟨C, i, none⟩) h2 (Blk.not_row hC (by decide) h2) u, ownsRow_setCell_other (a := ⟨C, i, none⟩) h3 (Blk.not_row hC (by decide) h3) u, h4⟩
theorem SchedOut.good {w w' : World} {J : List Jb} {S : List Int} {e : Ending} (h : SchedOut w w' J S e) (hf : Feas J S) : Below w.heap.size w w' ∧ ∃ (AL OB : Nat) (L : List Int) (P : Nat → Nat → Int), e = .returned (.tuple #[.slice (some ⟨OB, 0, none⟩) J.length J.length, .agg #[.slice none 0 0, .slice none 0 0], .int .i64 0]) ∧ (w.heap.size ≤ AL ∧ w.heap.size ≤ OB) ∧ Blk w' OB 23 (rowsC (fun i => .slice (some ⟨AL, i * S.length, none⟩) S.length S.length) J.length) ∧ Blk w' AL 3 (intsC L) ∧ L.length = J.length * S.length ∧ (∀ i t, i < J.length → t < S.length → L.getD (i * S.length + t) 0 = P i t) ∧ PlanOk J S P := by
  refine ⟨h.bel, ?_⟩
  rcases h.ex with h | ⟨v1, v2, C, T, h1, h2, h3, h4⟩
  · exact h
  · obtain ⟨P, hP⟩ := hf
    exact (plan_cut hP h4).elim
theorem ValidP.one {x : Jb} {S : List Int} (h : ValidP [x] S) : OkJ S.length x := h.j x (by simp)
theorem ValidP.snoc {J : List Jb} {S : List Int} {x : Jb} (h : ValidP J S) (hx : ValidP [x] S) (hl : J.length ≠ 12) : ValidP (J ++ [x]) S := by
  have h12 := h.j12
  refine ⟨by rw [List.length_append, List.length_singleton]; omega, h.s24, h.s, fun j hj => ?_⟩
  rcases List.mem_append.1 hj with hj | hj
  · exact h.j j hj
  · rw [List.mem_singleton.1 hj]; exact hx.one
theorem one_jobs {w : World} {B : Nat} {x : Jb} (h : Blk w B 27 (jobC x)) : JobsM w (some ⟨B, 0, none⟩) [x] := fun i hi => by
  obtain rfl : i = 0 := by simpa using hi
  exact ⟨B, 0, rfl, h.cell 0, h.cell 1, h.cell 2, h.cell 3, h.cell 4⟩
def admC (J : List Jb) (S : List Int) (x : Jb) : Int := if validP [x] S = false then 1 else if J.length = 12 then 2 else 0
set_option maxRecDepth 100000 in
set_option maxHeartbeats 8000000 in
theorem check_any (w : World) (J : List Jb) (S : List Int) (x : Jb) (oj os : Option Addr) (cj cs : Nat) (hj : JobsM w oj J) (hs : Ints w os S) (hv : ValidP J S) (hf : Feas J S) :
    Calls Try.prog 27 #[.slice oj J.length cj, .slice os S.length cs, jobV x] w (Ret (.int .i64 (admC J S x)) w) := by
  have HJ := Lib.hid hj
  have HS := Lib.hid hs
  have HV := Lib.hid hv
  have HF := Lib.hid hf
  have HVB := Lib.hid (validP_iff.2 hv)
  have hn12 := hv.j12
  have HAC := Lib.hid (show admC J S x = if validP [x] S = false then 1 else if J.length = 12 then 2 else 0 from rfl)
  clear hj hs hv hf
  go_enter Try.func27, Try.ntmps27
  go_upto_region 1 with (fail)
  obtain ⟨W1, hW1⟩ : ∃ W, W = w.alloc (.cells (jobC x) 27) := ⟨_, rfl⟩
  have HB1 := Lib.hid (show Below w.heap.size w W1 by rw [hW1]; exact below_alloc (Below.refl _ _) _)
  have HX1 := Lib.hid (show Blk W1 w.heap.size 27 (jobC x) by rw [hW1]; exact Blk.new ..)
  rw [← hW1]
  clear hW1
  have HVA := Lib.hid (pvalid_any J S oj os cj cs W1 (HJ.out.later HB1.out) (HS.out.later HB1.out))
  rw [HVB.out] at HVA
  go_wp2_with fail
  refine HVA.out.mono ?_
  rintro _ W2 ⟨rfl, hb2⟩
  have HB2 := Lib.hid (below_step HB1.out hb2)
  have HX2 := Lib.hid (HX1.out.later hb2)
  clear hb2 HVA HB1 HX1
  have x0 : W2.cell? ⟨w.heap.size, 0, none⟩ = some (.int .i64 x.f) := HX2.out.cell 0
  have x1 : W2.cell? ⟨w.heap.size, 1, none⟩ = some (.int .i64 x.t) := HX2.out.cell 1
  have x2 : W2.cell? ⟨w.heap.size, 2, none⟩ = some (.int .i64 x.e) := HX2.out.cell 2
  have x3 : W2.cell? ⟨w.heap.size, 3, none⟩ = some (.int .i64 x.r) := HX2.out.cell 3
  have x4 : W2.cell? ⟨w.heap.size, 4, none⟩ = some (.int .i64 x.k) := HX2.out.cell 4
  have hba : Below W2.heap.size W2 (W2.alloc (.cells (jobC x) 27)) := below_alloc (Below.refl _ _) _
  have HB3 := Lib.hid (below_step HB2.out hba)
  have HVX : Hid (Calls Try.prog 16 #[.slice (some ⟨W2.heap.size, 0, none⟩) 1 1, .slice os S.length cs] (W2.alloc (.cells (jobC x) 27)) (Ret (.bool (validP [x] S)) (W2.alloc (.cells (jobC x) 27)))) := Lib.hid (pvalid_any [x] S (some ⟨W2.heap.size, 0, none⟩) os 1 cs _ (one_jobs (Blk.new ..)) (HS.out.later HB3.out))
  clear hba
  go_wp2_with fail
  refine HVX.out.mono ?_
  rintro _ W4 ⟨rfl, hb4⟩
  have HB4 := Lib.hid (below_step HB3.out hb4)
  clear hb4 HVX HB3 x0 x1 x2 x3 x4 HB2 HX2
  cases hx : validP [x] S with
  | false =>
    rw [hx, if_pos rfl] at HAC
    clear hx
    go_wp2
    go_ret
    exact ⟨by rw [HAC.out]; rfl, HB4.out⟩
  | true =>
    rw [hx, if_neg (by decide)] at HAC
    clear hx
    by_cases h12 : J.length = 12
    · rw [if_pos h12] at HAC
      have d1 : ((J.length : Int) == 12) = true := by rw [h12]; rfl
      clear h12
      go_wp2
      go_ret
      exact ⟨by rw [HAC.out]; rfl, HB4.out⟩
    · rw [if_neg h12] at HAC
      have d1 : ((J.length : Int) == 12) = false := by simp; omega
      clear h12
      have HSC := Lib.hid (sched_any W4 J S oj os cj cs (HJ.out.later HB4.out) (HS.out.later HB4.out) HV.out)
      go_wp2_with fail
      refine HSC.out.mono ?_
      rintro _ W5 hso
      obtain ⟨hb5, AL, OB, L, P, rfl, _⟩ := hso.good HF.out
      have HB5 := Lib.hid (below_step HB4.out hb5)
      clear hb5 HSC
      have HB6 := Lib.hid (below_alloc HB5.out (.cells #[.slice none 0 0, .slice none 0 0] 30))
      go_wp2
      go_ret
      exact ⟨by rw [HAC.out]; rfl, HB6.out⟩
structure AdmOut (w w' : World) (J : List Jb) (S : List Int) (x : Jb) (e : Ending) : Prop where
  bel : Below w.heap.size w w'
  ex : (∃ c : Int, (c = 1 ∨ c = 2) ∧ (validP [x] S = true → J.length = 12) ∧ e = .returned (.tuple #[.slice none 0 0, .agg #[.slice none 0 0, .slice none 0 0], .int .i64 c])) ∨ (ValidP (J ++ [x]) S ∧ SchedOut w w' (J ++ [x]) S e)
set_option maxRecDepth 100000 in
set_option maxHeartbeats 8000000 in
theorem admit_any (w : World) (J : List Jb) (S : List Int) (x : Jb) (oj os : Option Addr) (cj cs : Nat) (hj : JobsM w oj J) (hs : Ints w os S) (hv : ValidP J S) (hf : Feas J S) (hc : oj = none → cj = 0) (hsp : ∀ a, oj = some a → a.spot = none) :
    Calls Try.prog 12 #[.slice oj J.length cj, .slice os S.length cs, jobV x] w (fun e w' => AdmOut w w' J S x e) := by
  have HJ := Lib.hid hj
  have HS := Lib.hid hs
  have HV := Lib.hid hv
  have HF := Lib.hid hf
  have HC := Lib.hid hc
  have HSP := Lib.hid hsp
  have hn12 := hv.j12
  have HAC := Lib.hid (show admC J S x = if validP [x] S = false then 1 else if J.length = 12 then 2 else 0 from rfl)
  clear hj hs hv hf hc hsp
  go_enter Try.func12, Try.ntmps12
  go_upto_region 1 with (fail)
  obtain ⟨W1, hW1⟩ : ∃ W, W = (w.alloc (.cells (jobC x) 27)).alloc (.cells #[.slice none 0 0, .slice none 0 0] 30) := ⟨_, rfl⟩
  have HB1 := Lib.hid (show Below w.heap.size w W1 by rw [hW1]; exact below_alloc (below_alloc (Below.refl _ _) _) _)
  have HX1 := Lib.hid (show Blk W1 w.heap.size 27 (jobC x) by rw [hW1]; exact (Blk.new ..).alloc _)
  have HK1 := Lib.hid (show Blk W1 (w.heap.size + 1) 30 #[.slice none 0 0, .slice none 0 0] by
    rw [hW1]
    have := Blk.new (w.alloc (.cells (jobC x) 27)) 30 #[.slice none 0 0, .slice none 0 0]
    rwa [World.size_alloc] at this)
  rw [← hW1]
  clear hW1
  have HCH := Lib.hid (check_any W1 J S x oj os cj cs (HJ.out.later HB1.out) (HS.out.later HB1.out) HV.out HF.out)
  have x0 : W1.cell? ⟨w.heap.size, 0, none⟩ = some (.int .i64 x.f) := HX1.out.cell 0
  have x1 : W1.cell? ⟨w.heap.size, 1, none⟩ = some (.int .i64 x.t) := HX1.out.cell 1
  have x2 : W1.cell? ⟨w.heap.size, 2, none⟩ = some (.int .i64 x.e) := HX1.out.cell 2
  have x3 : W1.cell? ⟨w.heap.size, 3, none⟩ = some (.int .i64 x.r) := HX1.out.cell 3
  have x4 : W1.cell? ⟨w.heap.size, 4, none⟩ = some (.int .i64 x.k) := HX1.out.cell 4
  obtain ⟨ac, hac⟩ : ∃ c, admC J S x = c := ⟨_, rfl⟩
  rw [hac] at HCH HAC
  clear hac
  go_wp2_with fail
  refine HCH.out.mono ?_
  rintro _ W2 ⟨rfl, hb2⟩
  have HB2 := Lib.hid (below_step HB1.out hb2)
  have HX2 := Lib.hid (HX1.out.later hb2)
  have HK2 := Lib.hid (HK1.out.later hb2)
  clear hb2 HCH HB1 HX1 HK1 x0 x1 x2 x3 x4
  have k0 : W2.cell? ⟨w.heap.size + 1, 0, none⟩ = some (.slice none 0 0) := HK2.out.cell 0
  have k1 : W2.cell? ⟨w.heap.size + 1, 1, none⟩ = some (.slice none 0 0) := HK2.out.cell 1
  have kf := HK2.out.frozen
  have kf0 := kf 0
  have kf1 := kf 1
  clear kf
  by_cases hz : ac = 0
  · have d1 : (ac != 0) = false := by simp [hz]
    have HVS : Hid (ValidP (J ++ [x]) S) := Lib.hid (by
      have h := HAC.out
      rw [hz] at h
      cases hx : validP [x] S with
      | false => rw [hx, if_pos rfl] at h; cases h
      | true =>
        rw [hx, if_neg (by decide)] at h
        by_cases h12 : J.length = 12
        · rw [if_pos h12] at h; cases h
        · exact HV.out.snoc (validP_iff.1 hx) h12)
    clear hz HAC k0 k1 kf0 kf1
    have x0 : W2.cell? ⟨w.heap.size, 0, none⟩ = some (.int .i64 x.f) := HX2.out.cell 0
    have x1 : W2.cell? ⟨w.heap.size, 1, none⟩ = some (.int .i64 x.t) := HX2.out.cell 1
    have x2 : W2.cell? ⟨w.heap.size, 2, none⟩ = some (.int .i64 x.e) := HX2.out.cell 2
    have x3 : W2.cell? ⟨w.heap.size, 3, none⟩ = some (.int .i64 x.r) := HX2.out.cell 3
    have x4 : W2.cell? ⟨w.heap.size, 4, none⟩ = some (.int .i64 x.k) := HX2.out.cell 4
    have HWI := Lib.hid (with_any J x oj cj W2 (HJ.out.later HB2.out) (by omega) HC.out HSP.out)
    go_wp2_with fail
    refine HWI.out.mono ?_
    rintro _ W3 ⟨hb3, v, rfl, hr⟩
    obtain ⟨o, c, rfl, _⟩ := ownsRow_shapeQ hr
    have HB3 := Lib.hid (below_step HB2.out hb3)
    have HK3 := Lib.hid (HK2.out.later hb3)
    have HSC := Lib.hid (sched_any W3 (J ++ [x]) S o os c cs (row_jobs hr) (HS.out.later HB3.out) HVS.out)
    clear hb3 hr HWI HB2 HK2 HX2 x0 x1 x2 x3 x4
    obtain ⟨J2, hJ2⟩ : ∃ J2, J ++ [x] = J2 := ⟨_, rfl⟩
    rw [hJ2] at HSC HVS ⊢
    have HJ2 := Lib.hid hJ2
    clear hJ2
    go_wp2_with fail
    refine HSC.out.mono ?_
    rintro _ W4 hso
    have HSO := Lib.hid (hso.mono HB3.out)
    have HK4 := Lib.hid (HK3.out.later hso.bel)
    clear hso HSC
    have k0 : W4.cell? ⟨w.heap.size + 1, 0, none⟩ = some (.slice none 0 0) := HK4.out.cell 0
    have k1 : W4.cell? ⟨w.heap.size + 1, 1, none⟩ = some (.slice none 0 0) := HK4.out.cell 1
    have kf0 := HK4.out.frozen 0
    have kf1 := HK4.out.frozen 1
    rcases HSO.out.ex with ⟨AL, OB, L, P, h1, _⟩ | ⟨v1, v2, C, T, h1, h2, h3, _⟩
    · have HE := Lib.hid ((HSO.out.set HK4.out (Nat.le_succ _) 0 (.slice none 0 0)).set (HK4.out.set 0 (.slice none 0 0)) (Nat.le_succ _) 1 (.slice none 0 0))
      rw [h1] at HE
      subst h1
      go_wp2
      exact bodyPost_ret (v := .tuple #[.slice (some ⟨OB, 0, none⟩) J2.length J2.length, .agg #[.slice none 0 0, .slice none 0 0], .int .i64 0]) (by simp [results, Try.results12, go_sem, k0, k1]) rfl ⟨HE.out.bel, .inr ⟨by rw [HJ2.out]; exact HVS.out, by rw [HJ2.out]; exact HE.out⟩⟩
    · obtain ⟨o1, c1, rfl, _⟩ := ownsRow_shapeQ h2
      obtain ⟨o2, c2, rfl, _⟩ := ownsRow_shapeQ h3
      obtain ⟨n1, hn1⟩ : ∃ n, (chosenL C J2.length).length = n := ⟨_, rfl⟩
      obtain ⟨n2, hn2⟩ : ∃ n, (chosenL T S.length).length = n := ⟨_, rfl⟩
      rw [hn1, hn2] at h1
      clear h2 h3 hn1 hn2
      have HE := Lib.hid ((HSO.out.set HK4.out (Nat.le_succ _) 0 (.slice o1 n1 c1)).set (HK4.out.set 0 (.slice o1 n1 c1)) (Nat.le_succ _) 1 (.slice o2 n2 c2))
      rw [h1] at HE
      subst h1
      go_wp2
      exact bodyPost_ret (v := .tuple #[.slice none 0 0, .agg #[.slice o1 n1 c1, .slice o2 n2 c2], .int .i64 10]) (by simp [results, Try.results12, go_sem, k0, k1]) rfl ⟨HE.out.bel, .inr ⟨by rw [HJ2.out]; exact HVS.out, by rw [HJ2.out]; exact HE.out⟩⟩
  · have d1 : (ac != 0) = true := by simp [hz]
    have HEX : Hid ((ac = 1 ∨ ac = 2) ∧ (validP [x] S = true → J.length = 12)) := Lib.hid (by
      have h := HAC.out
      cases hx : validP [x] S with
      | false => rw [hx, if_pos rfl] at h; exact ⟨.inl h, fun h => by cases h⟩
      | true =>
        rw [hx, if_neg (by decide)] at h
        by_cases h12 : J.length = 12
        · rw [if_pos h12] at h; exact ⟨.inr h, fun _ => h12⟩
        · rw [if_neg h12] at h; exact absurd h hz)
    clear hz HAC
    have HBF := Lib.hid ((HB2.out.setCell (p := ⟨w.heap.size + 1, 0, none⟩) (Nat.le_succ _) (.slice none 0 0)).setCell (p := ⟨w.heap.size + 1, 1, none⟩) (Nat.le_succ _) (.slice none 0 0))
    go_wp2
    exact bodyPost_ret (v := .tuple #[.slice none 0 0, .agg #[.slice none 0 0, .slice none 0 0], .int .i64 ac]) (by simp [results, Try.results12, go_sem, k0, k1]) rfl ⟨HBF.out, .inl ⟨ac, HEX.out.1, HEX.out.2, rfl⟩⟩
end Go.Proofs.Ythgkfdhkmkbioaa
