/- Package plan: jobs; Valid. -/
import Derived.Test.YthgkfdhkmkbioaaFi21
namespace Go.Proofs.Ythgkfdhkmkbioaa
open Go.RowKit
attribute [local go_sem] Oper.semAt_some

/-- A job. -/
structure Jb where
  f : Int
  t : Int
  e : Int
  r : Int
  k : Int
def Jb.zero : Jb := ⟨0, 0, 0, 0, 0⟩
def getJ (J : List Jb) (i : Nat) : Jb := J.getD i Jb.zero
theorem getJ_mem {J : List Jb} {i : Nat} (h : i < J.length) : getJ J i ∈ J := by
  unfold getJ
  rw [List.getD_eq_getElem?_getD, List.getElem?_eq_getElem h]
  exact List.getElem_mem h
theorem mem_getJ {J : List Jb} {j : Jb} (h : j ∈ J) : ∃ i, i < J.length ∧ getJ J i = j := by
  obtain ⟨i, hi, rfl⟩ := List.getElem_of_mem h
  exact ⟨i, hi, by simp [getJ, hi]⟩
def okI (n a b : Int) : Bool := decide (a ≤ n) && decide (n ≤ b)
def okJ (m : Nat) (j : Jb) : Bool := okI j.f 0 j.t && (okI j.t 0 m && (okI j.e 0 1000 && (okI j.r 0 1000 && okI j.k 1 9)))
structure OkJ (m : Nat) (j : Jb) : Prop where
  f0 : 0 ≤ j.f
  ft : j.f ≤ j.t
  tm : j.t ≤ m
  e0 : 0 ≤ j.e
  e1 : j.e ≤ 1000
  r0 : 0 ≤ j.r
  r1 : j.r ≤ 1000
  k0 : 1 ≤ j.k
  k1 : j.k ≤ 9
theorem okJ_iff {m : Nat} {j : Jb} : okJ m j = true ↔ OkJ m j := by
  unfold okJ okI
  simp only [Bool.and_eq_true, decide_eq_true_eq]
  exact ⟨fun ⟨⟨a, b⟩, ⟨_, c⟩, ⟨d, e⟩, ⟨f, g⟩, ⟨h, i⟩⟩ => ⟨a, b, c, d, e, f, g, h, i⟩, fun h => ⟨⟨h.f0, h.ft⟩, ⟨Int.le_trans h.f0 h.ft, h.tm⟩, ⟨h.e0, h.e1⟩, ⟨h.r0, h.r1⟩, ⟨h.k0, h.k1⟩⟩⟩
def validP (J : List Jb) (S : List Int) : Bool := decide (J.length ≤ 12) && (decide (S.length ≤ 24) && (S.all (okI · 0 1000) && J.all (okJ S.length)))
structure ValidP (J : List Jb) (S : List Int) : Prop where
  j12 : J.length ≤ 12
  s24 : S.length ≤ 24
  s : ∀ n ∈ S, 0 ≤ n ∧ n ≤ 1000
  j : ∀ j ∈ J, OkJ S.length j
theorem validP_iff {J : List Jb} {S : List Int} : validP J S = true ↔ ValidP J S := by
  unfold validP
  simp only [Bool.and_eq_true, decide_eq_true_eq, List.all_eq_true]
  refine ⟨fun ⟨a, b, c, d⟩ => ⟨a, b, fun n hn => ?_, fun j hj => okJ_iff.1 (d j hj)⟩, fun h => ⟨h.j12, h.s24, fun n hn => ?_, fun j hj => okJ_iff.2 (h.j j hj)⟩⟩
  · have := c n hn
    simpa [okI] using this
  · have := h.s n hn
    simpa [okI] using this
theorem validP_long {J : List Jb} {S : List Int} (h : 12 < J.length ∨ 24 < S.length) : validP J S = false := by
  cases hv : validP J S with
  | false => rfl
  | true => have := validP_iff.1 hv; rcases h with h | h; exact absurd this.j12 (by omega); exact absurd this.s24 (by omega)
theorem validP_badS {J : List Jb} {S : List Int} {i : Nat} (hi : i < S.length) (h : okI (S.getD i 0) 0 1000 = false) : validP J S = false := by
  cases hv : validP J S with
  | false => rfl
  | true =>
    have h1 := (validP_iff.1 hv).s (S.getD i 0) (by rw [List.getD_eq_getElem?_getD, List.getElem?_eq_getElem hi]; exact List.getElem_mem hi)
    have : okI (S.getD i 0) 0 1000 = true := by unfold okI; rw [decide_eq_true h1.1, decide_eq_true h1.2]; rfl
    rw [h] at this
    cases this
theorem validP_badJ {J : List Jb} {S : List Int} {i : Nat} (hi : i < J.length) (h : okJ S.length (getJ J i) = false) : validP J S = false := by
  cases hv : validP J S with
  | false => rfl
  | true =>
    have h1 := okJ_iff.2 ((validP_iff.1 hv).j _ (getJ_mem hi))
    rw [h] at h1
    cases h1
theorem validP_good {J : List Jb} {S : List Int} (h1 : J.length ≤ 12) (h2 : S.length ≤ 24) (h3 : ∀ i, i < S.length → okI (S.getD i 0) 0 1000 = true) (h4 : ∀ i, i < J.length → okJ S.length (getJ J i) = true) : validP J S = true := by
  unfold validP
  simp only [Bool.and_eq_true, decide_eq_true_eq, List.all_eq_true]
  refine ⟨h1, h2, fun n hn => ?_, fun j hj => ?_⟩
  · obtain ⟨i, hi, rfl⟩ := List.getElem_of_mem hn
    have := h3 i hi
    rwa [List.getD_eq_getElem?_getD, List.getElem?_eq_getElem hi] at this
  · obtain ⟨i, hi, rfl⟩ := mem_getJ hj
    exact h4 i hi
/-- Jobs in memory. -/
def JobsM (w : World) (o : Option Addr) (J : List Jb) : Prop :=
  ∀ i, i < J.length → ∃ b off, o = some ⟨b, off, none⟩ ∧ w.cell? ⟨b, off + i * 5, none⟩ = some (.int .i64 (getJ J i).f) ∧ w.cell? ⟨b, off + i * 5 + 1, none⟩ = some (.int .i64 (getJ J i).t) ∧ w.cell? ⟨b, off + i * 5 + 2, none⟩ = some (.int .i64 (getJ J i).e) ∧ w.cell? ⟨b, off + i * 5 + 3, none⟩ = some (.int .i64 (getJ J i).r) ∧ w.cell? ⟨b, off + i * 5 + 4, none⟩ = some (.int .i64 (getJ J i).k)
theorem JobsM.later {w w' : World} {o : Option Addr} {J : List Jb} (h : JobsM w o J) (hb : Below w.heap.size w w') : JobsM w' o J := fun i hi => by
  obtain ⟨b, off, h1, c0, c1, c2, c3, c4⟩ := h i hi
  exact ⟨b, off, h1, cell_kept hb c0, cell_kept hb c1, cell_kept hb c2, cell_kept hb c3, cell_kept hb c4⟩
@[reducible] def jobC (j : Jb) : Array Value := #[.int .i64 j.f, .int .i64 j.t, .int .i64 j.e, .int .i64 j.r, .int .i64 j.k]
@[reducible] def jobV (j : Jb) : Value := .agg #[.int .i64 j.f, .int .i64 j.t, .int .i64 j.e, .int .i64 j.r, .int .i64 j.k]

theorem okJ_no {m : Nat} {j : Jb} (h : ¬ OkJ m j) : okJ m j = false := by
  cases hc : okJ m j with
  | false => rfl
  | true => exact absurd (okJ_iff.1 hc) h
set_option maxRecDepth 100000 in
set_option maxHeartbeats 16000000 in
theorem refJob_any (j : Jb) (m : Nat) (w : World) : Calls Try.prog 15 #[jobV j, .int .i64 (m : Nat)] w (Ret (.bool (okJ m j)) w) := by
  obtain ⟨B, hB⟩ : ∃ B, okJ m j = B := ⟨_, rfl⟩
  have HB := Lib.hid hB
  have HO := Lib.hid (okJ_iff (m := m) (j := j))
  rw [hB] at HO ⊢
  clear hB
  go_enter Try.func15, Try.ntmps15
  go_upto_region 1 with (fail)
  obtain ⟨W1, hW1⟩ : ∃ W, W = w.alloc (.cells (jobC j) 27) := ⟨_, rfl⟩
  have HBL := Lib.hid (show Below w.heap.size w W1 by rw [hW1]; exact below_alloc (Below.refl _ _) _)
  have HG := Lib.hid (show Blk W1 w.heap.size 27 (jobC j) by rw [hW1]; exact Blk.new ..)
  rw [← hW1]
  clear hW1
  have g0 : W1.cell? ⟨w.heap.size, 0, none⟩ = some (.int .i64 j.f) := HG.out.cell 0
  have g1 : W1.cell? ⟨w.heap.size, 1, none⟩ = some (.int .i64 j.t) := HG.out.cell 1
  have g2 : W1.cell? ⟨w.heap.size, 2, none⟩ = some (.int .i64 j.e) := HG.out.cell 2
  have g3 : W1.cell? ⟨w.heap.size, 3, none⟩ = some (.int .i64 j.r) := HG.out.cell 3
  have g4 : W1.cell? ⟨w.heap.size, 4, none⟩ = some (.int .i64 j.k) := HG.out.cell 4
  by_cases h0 : 0 ≤ j.f
  case neg =>
    have d0 : decide (0 ≤ j.f) = false := decide_eq_false h0
    have HN := Lib.hid h0
    clear h0
    go_wp2
    go_ret
    have : B = false := by cases B with | false => rfl | true => (exact absurd (HO.out.1 rfl).f0 (by have := HN.out; omega))
    subst this
    exact ⟨rfl, HBL.out⟩
  have d0 : decide (0 ≤ j.f) = true := decide_eq_true h0
  have H0 := Lib.hid h0
  clear h0
  by_cases h1 : j.f ≤ j.t
  case neg =>
    have d1 : decide (j.f ≤ j.t) = false := decide_eq_false h1
    have HN := Lib.hid h1
    clear h1
    go_wp2
    go_ret
    have : B = false := by cases B with | false => rfl | true => (exact absurd (HO.out.1 rfl).ft (by have := HN.out; omega))
    subst this
    exact ⟨rfl, HBL.out⟩
  have d1 : decide (j.f ≤ j.t) = true := decide_eq_true h1
  have H1 := Lib.hid h1
  clear h1
  by_cases h2 : j.t ≤ (m : Int)
  case neg =>
    have d2 : decide (j.t ≤ (m : Int)) = false := decide_eq_false h2
    have HN := Lib.hid h2
    clear h2
    go_wp2
    go_ret
    have : B = false := by cases B with | false => rfl | true => (exact absurd (HO.out.1 rfl).tm (by have := HN.out; omega))
    subst this
    exact ⟨rfl, HBL.out⟩
  have d2 : decide (j.t ≤ (m : Int)) = true := decide_eq_true h2
  have H2 := Lib.hid h2
  clear h2
  by_cases h3 : 0 ≤ j.e
  case neg =>
    have d3 : decide (0 ≤ j.e) = false := decide_eq_false h3
    have HN := Lib.hid h3
    clear h3
    go_wp2
    go_ret
    have : B = false := by cases B with | false => rfl | true => (exact absurd (HO.out.1 rfl).e0 (by have := HN.out; omega))
    subst this
    exact ⟨rfl, HBL.out⟩
  have d3 : decide (0 ≤ j.e) = true := decide_eq_true h3
  have H3 := Lib.hid h3
  clear h3
  by_cases h4 : j.e ≤ 1000
  case neg =>
    have d4 : decide (j.e ≤ 1000) = false := decide_eq_false h4
    have HN := Lib.hid h4
    clear h4
    go_wp2
    go_ret
    have : B = false := by cases B with | false => rfl | true => (exact absurd (HO.out.1 rfl).e1 (by have := HN.out; omega))
    subst this
    exact ⟨rfl, HBL.out⟩
  have d4 : decide (j.e ≤ 1000) = true := decide_eq_true h4
  have H4 := Lib.hid h4
  clear h4
  by_cases h5 : 0 ≤ j.r
  case neg =>
    have d5 : decide (0 ≤ j.r) = false := decide_eq_false h5
    have HN := Lib.hid h5
    clear h5
    go_wp2
    go_ret
    have : B = false := by cases B with | false => rfl | true => (exact absurd (HO.out.1 rfl).r0 (by have := HN.out; omega))
    subst this
    exact ⟨rfl, HBL.out⟩
  have d5 : decide (0 ≤ j.r) = true := decide_eq_true h5
  have H5 := Lib.hid h5
  clear h5
  by_cases h6 : j.r ≤ 1000
  case neg =>
    have d6 : decide (j.r ≤ 1000) = false := decide_eq_false h6
    have HN := Lib.hid h6
    clear h6
    go_wp2
    go_ret
    have : B = false := by cases B with | false => rfl | true => (exact absurd (HO.out.1 rfl).r1 (by have := HN.out; omega))
    subst this
    exact ⟨rfl, HBL.out⟩
  have d6 : decide (j.r ≤ 1000) = true := decide_eq_true h6
  have H6 := Lib.hid h6
  clear h6
  by_cases h7 : 1 ≤ j.k
  case neg =>
    have d7 : decide (1 ≤ j.k) = false := decide_eq_false h7
    have HN := Lib.hid h7
    clear h7
    go_wp2
    go_ret
    have : B = false := by cases B with | false => rfl | true => (exact absurd (HO.out.1 rfl).k0 (by have := HN.out; omega))
    subst this
    exact ⟨rfl, HBL.out⟩
  have d7 : decide (1 ≤ j.k) = true := decide_eq_true h7
  have H7 := Lib.hid h7
  clear h7
  by_cases h8 : j.k ≤ 9
  case neg =>
    have d8 : decide (j.k ≤ 9) = false := decide_eq_false h8
    have HN := Lib.hid h8
    clear h8
    go_wp2
    go_ret
    have : B = false := by cases B with | false => rfl | true => (exact absurd (HO.out.1 rfl).k1 (by have := HN.out; omega))
    subst this
    exact ⟨rfl, HBL.out⟩
  have d8 : decide (j.k ≤ 9) = true := decide_eq_true h8
  have H8 := Lib.hid h8
  clear h8
  go_wp2
  go_ret
  have : B = true := HO.out.2 ⟨H0.out, H1.out, H2.out, H3.out, H4.out, H5.out, H6.out, H7.out, H8.out⟩
  subst this
  exact ⟨rfl, HBL.out⟩
set_option maxRecDepth 100000 in
set_option maxHeartbeats 16000000 in
theorem refValid_any (J : List Jb) (S : List Int) (oj os : Option Addr) (cj cs : Nat) (w : World) (hj : JobsM w oj J) (hs : Ints w os S) : Calls Try.prog 7 #[.slice oj J.length cj, .slice os S.length cs] w (Ret (.bool (validP J S)) w) := by
  have HJ := Lib.hid hj
  have HS := Lib.hid hs
  clear hj hs
  go_enter Try.func7, Try.ntmps7
  by_cases hl1 : (12 : Int) < (J.length : Int)
  case pos =>
    have d1 : decide ((12 : Int) < (J.length : Int)) = true := decide_eq_true hl1
    have HV := Lib.hid (validP_long (J := J) (S := S) (.inl (by omega)))
    clear hl1
    go_wp2
    go_ret
    exact ⟨by rw [HV.out]; rfl, Below.refl _ _⟩
  have d1 : decide ((12 : Int) < (J.length : Int)) = false := decide_eq_false hl1
  by_cases hl2 : (24 : Int) < (S.length : Int)
  case pos =>
    have d2 : decide ((24 : Int) < (S.length : Int)) = true := decide_eq_true hl2
    have HV := Lib.hid (validP_long (J := J) (S := S) (.inr (by omega)))
    clear hl1 hl2
    go_wp2
    go_ret
    exact ⟨by rw [HV.out]; rfl, Below.refl _ _⟩
  have d2 : decide ((24 : Int) < (S.length : Int)) = false := decide_eq_false hl2
  have HL1 : Hid (J.length ≤ 12) := Lib.hid (by omega)
  have HL2 : Hid (S.length ≤ 24) := Lib.hid (by omega)
  clear hl1 hl2
  have hJ12 := HL1.out
  have hS24 := HL2.out
  go_wp2_with fail
  go_loopw [5] (fun i wr => ∃ k : Nat, k ≤ S.length ∧ i = .int .i64 k ∧ (∀ i, i < k → okI (S.getD i 0) 0 1000 = true) ∧ Below w.heap.size w wr) (fun i _ => S.length - (intOf i).toNat)
  case atStart => exact ⟨0, Nat.zero_le _, rfl, fun i hi => absurd hi (Nat.not_lt_zero _), Below.refl _ _⟩
  case round =>
    obtain ⟨k, hk, rfl, hok, hb⟩ := hrel
    obtain ⟨wA, rfl⟩ : ∃ wA : World, wA = wr := ⟨_, rfl⟩
    have HB := Lib.hid hb
    have HOK := Lib.hid hok
    clear hb hok
    by_cases hlt : k < S.length
    · obtain ⟨b, off, rfl, s0⟩ := HS.out k hlt
      replace s0 := cell_kept HB.out s0
      have HBAD := Lib.hid (validP_badS (J := J) hlt)
      obtain ⟨x, hx⟩ : ∃ x, S.getD k 0 = x := ⟨_, rfl⟩
      have HX := Lib.hid hx
      rw [hx] at s0 HBAD
      clear hx
      have y1 : (0 : Int) ≤ (k : Int) := by omega
      have y2 : (k : Int) < (S.length : Int) := by omega
      by_cases hx0 : x < 0
      · have d3 : decide (x < 0) = true := decide_eq_true hx0
        have HV := Lib.hid (HBAD.out (by unfold okI; rw [decide_eq_false (by omega)]; rfl))
        clear hx0
        go_wp2
        go_ret
        exact ⟨by rw [HV.out]; rfl, HB.out⟩
      have d3 : decide (x < 0) = false := decide_eq_false hx0
      by_cases hx1 : 1000 < x
      · have d4 : decide (1000 < x) = true := decide_eq_true hx1
        have HV := Lib.hid (HBAD.out (by unfold okI; rw [decide_eq_false (p := x ≤ 1000) (by omega), Bool.and_false]))
        clear hx0 hx1
        go_wp2
        go_ret
        exact ⟨by rw [HV.out]; rfl, HB.out⟩
      have d4 : decide (1000 < x) = false := decide_eq_false hx1
      have HI : Hid (okI x 0 1000 = true) := Lib.hid (by unfold okI; rw [decide_eq_true (by omega), decide_eq_true (by omega)]; rfl)
      clear hx0 hx1
      go_wp2
      go_round
      case rel => exact ⟨k + 1, hlt, by go_num, fun i hi => by
          by_cases e : i = k
          · rw [e, HX.out]; exact HI.out
          · exact HOK.out i (by omega), HB.out⟩
      case measure => exact meas_lt hlt
    · obtain rfl : k = S.length := by omega
      clear hlt hk
      go_wp2_with fail
      go_loopw [6] (fun i wr => ∃ k : Nat, k ≤ J.length ∧ i = .int .i64 k ∧ (∀ i, i < k → okJ S.length (getJ J i) = true) ∧ Below w.heap.size w wr) (fun i _ => J.length - (intOf i).toNat)
      case atStart => exact ⟨0, Nat.zero_le _, rfl, fun i hi => absurd hi (Nat.not_lt_zero _), HB.out⟩
      case round =>
        obtain ⟨k, hk, rfl, hokj, hb⟩ := hrel
        obtain ⟨wB, rfl⟩ : ∃ wB : World, wB = wr := ⟨_, rfl⟩
        have HB2 := Lib.hid hb
        have HOKJ := Lib.hid hokj
        clear hb hokj
        by_cases hlt : k < J.length
        · obtain ⟨b, off, rfl, c0, c1, c2, c3, c4⟩ := (HJ.out.later HB2.out) k hlt
          have HBAD := Lib.hid (validP_badJ (S := S) hlt)
          obtain ⟨j, hj⟩ : ∃ j, getJ J k = j := ⟨_, rfl⟩
          have HX := Lib.hid hj
          rw [hj] at c0 c1 c2 c3 c4 HBAD
          clear hj
          obtain ⟨m, hm⟩ : ∃ m, S.length = m := ⟨_, rfl⟩
          rw [hm] at HBAD
          have HM := Lib.hid hm
          have y1 : (0 : Int) ≤ (k : Int) := by omega
          have y2 : (k : Int) < (J.length : Int) := by omega
          have HC := Lib.hid (refJob_any j S.length wB)
          rw [hm] at HC
          rw [hm]
          clear hm
          cases hI : okJ m j with
          | false =>
            rw [hI] at HC
            have HV := Lib.hid (HBAD.out hI)
            clear hI
            go_wp2_with fail
            refine HC.out.mono ?_
            rintro _ w2 ⟨rfl, hb2⟩
            have HB3 := Lib.hid (below_step HB2.out hb2)
            clear hb2
            go_wp2
            go_ret
            exact ⟨by rw [HV.out]; rfl, HB3.out⟩
          | true =>
            rw [hI] at HC
            have HI := Lib.hid hI
            clear hI
            go_wp2_with fail
            refine HC.out.mono ?_
            rintro _ w2 ⟨rfl, hb2⟩
            have HB3 := Lib.hid (below_step HB2.out hb2)
            clear hb2
            go_wp2
            go_round
            case rel => exact ⟨k + 1, hlt, by go_num, fun i hi => by
                by_cases e : i = k
                · rw [e, HX.out]; exact HI.out
                · rw [← HM.out]; exact HOKJ.out i (by omega), HB3.out⟩
            case measure => exact meas_lt hlt
        · obtain rfl : k = J.length := by omega
          have HV := Lib.hid (validP_good HL1.out HL2.out HOK.out HOKJ.out)
          go_wp2
          go_ret
          exact ⟨by rw [HV.out]; rfl, HB2.out⟩
set_option maxRecDepth 100000 in
set_option maxHeartbeats 16000000 in
theorem pvalid_any (J : List Jb) (S : List Int) (oj os : Option Addr) (cj cs : Nat) (w : World) (hj : JobsM w oj J) (hs : Ints w os S) : Calls Try.prog 16 #[.slice oj J.length cj, .slice os S.length cs] w (Ret (.bool (validP J S)) w) := by
  have HJ := Lib.hid hj
  have HS := Lib.hid hs
  clear hj hs
  go_enter Try.func16, Try.ntmps16
  by_cases hl1 : (12 : Int) < (J.length : Int)
  case pos =>
    have d1 : decide ((12 : Int) < (J.length : Int)) = true := decide_eq_true hl1
    have HV := Lib.hid (validP_long (J := J) (S := S) (.inl (by omega)))
    clear hl1
    go_wp2
    go_ret
    exact ⟨by rw [HV.out]; rfl, Below.refl _ _⟩
  have d1 : decide ((12 : Int) < (J.length : Int)) = false := decide_eq_false hl1
  by_cases hl2 : (24 : Int) < (S.length : Int)
  case pos =>
    have d2 : decide ((24 : Int) < (S.length : Int)) = true := decide_eq_true hl2
    have HV := Lib.hid (validP_long (J := J) (S := S) (.inr (by omega)))
    clear hl1 hl2
    go_wp2
    go_ret
    exact ⟨by rw [HV.out]; rfl, Below.refl _ _⟩
  have d2 : decide ((24 : Int) < (S.length : Int)) = false := decide_eq_false hl2
  have HL1 : Hid (J.length ≤ 12) := Lib.hid (by omega)
  have HL2 : Hid (S.length ≤ 24) := Lib.hid (by omega)
  clear hl1 hl2
  have hJ12 := HL1.out
  have hS24 := HL2.out
  go_wp2_with fail
  go_loopw [19] (fun i wr => ∃ k : Nat, k ≤ S.length ∧ i = .int .i64 k ∧ (∀ i, i < k → okI (S.getD i 0) 0 1000 = true) ∧ Below w.heap.size w wr) (fun i _ => S.length - (intOf i).toNat)
  case atStart => exact ⟨0, Nat.zero_le _, rfl, fun i hi => absurd hi (Nat.not_lt_zero _), Below.refl _ _⟩
  case round =>
    obtain ⟨k, hk, rfl, hok, hb⟩ := hrel
    obtain ⟨wA, rfl⟩ : ∃ wA : World, wA = wr := ⟨_, rfl⟩
    have HB := Lib.hid hb
    have HOK := Lib.hid hok
    clear hb hok
    by_cases hlt : k < S.length
    · obtain ⟨b, off, rfl, s0⟩ := HS.out k hlt
      replace s0 := cell_kept HB.out s0
      have HBAD := Lib.hid (validP_badS (J := J) hlt)
      obtain ⟨x, hx⟩ : ∃ x, S.getD k 0 = x := ⟨_, rfl⟩
      have HX := Lib.hid hx
      rw [hx] at s0 HBAD
      clear hx
      have y1 : (0 : Int) ≤ (k : Int) := by omega
      have y2 : (k : Int) < (S.length : Int) := by omega
      have HC := Lib.hid (pinside_any x 0 1000 wA)
      rw [show (decide (0 ≤ x) && decide (x ≤ 1000)) = okI x 0 1000 from rfl] at HC
      cases hI : okI x 0 1000 with
      | false =>
        rw [hI] at HC
        have HV := Lib.hid (HBAD.out hI)
        clear hI
        go_wp2_with fail
        refine HC.out.mono ?_
        rintro _ w2 ⟨rfl, rfl⟩
        go_wp2
        go_ret
        exact ⟨by rw [HV.out]; rfl, HB.out⟩
      | true =>
        rw [hI] at HC
        have HI := Lib.hid hI
        clear hI
        go_wp2_with fail
        refine HC.out.mono ?_
        rintro _ w2 ⟨rfl, rfl⟩
        go_wp2
        go_round
        case rel => exact ⟨k + 1, hlt, by go_num, fun i hi => by
            by_cases e : i = k
            · rw [e, HX.out]; exact HI.out
            · exact HOK.out i (by omega), HB.out⟩
        case measure => exact meas_lt hlt
    · obtain rfl : k = S.length := by omega
      clear hlt hk
      go_wp2_with fail
      go_loopw [29] (fun i wr => ∃ k : Nat, k ≤ J.length ∧ i = .int .i64 k ∧ (∀ i, i < k → okJ S.length (getJ J i) = true) ∧ Below w.heap.size w wr) (fun i _ => J.length - (intOf i).toNat)
      case atStart => exact ⟨0, Nat.zero_le _, rfl, fun i hi => absurd hi (Nat.not_lt_zero _), HB.out⟩
      case round =>
        obtain ⟨k, hk, rfl, hokj, hb⟩ := hrel
        obtain ⟨wB, rfl⟩ : ∃ wB : World, wB = wr := ⟨_, rfl⟩
        have HB2 := Lib.hid hb
        have HOKJ := Lib.hid hokj
        clear hb hokj
        by_cases hlt : k < J.length
        · obtain ⟨b, off, rfl, c0, c1, c2, c3, c4⟩ := (HJ.out.later HB2.out) k hlt
          have HBAD := Lib.hid (validP_badJ (S := S) hlt)
          obtain ⟨j, hj⟩ : ∃ j, getJ J k = j := ⟨_, rfl⟩
          have HX := Lib.hid hj
          rw [hj] at c0 c1 c2 c3 c4 HBAD
          clear hj
          obtain ⟨m, hm⟩ : ∃ m, S.length = m := ⟨_, rfl⟩
          rw [hm] at HBAD
          have HM := Lib.hid hm
          have y1 : (0 : Int) ≤ (k : Int) := by omega
          have y2 : (k : Int) < (J.length : Int) := by omega
          rw [hm]
          clear hm
          go_upto_region 12 with (fail)
          obtain ⟨W4, hW4⟩ : ∃ W, W = wB.alloc (.cells (jobC j) 27) := ⟨_, rfl⟩
          have hb4 : Below wB.heap.size wB W4 := by rw [hW4]; exact below_alloc (Below.refl _ _) _
          have HP4 := Lib.hid (show Blk W4 wB.heap.size 27 (jobC j) by rw [hW4]; exact Blk.new ..)
          have HB4 := Lib.hid (below_step HB2.out hb4)
          rw [← hW4]
          clear hW4 hb4 c0 c1 c2 c3 c4
          have g0 : W4.cell? ⟨wB.heap.size, 0, none⟩ = some (.int .i64 j.f) := HP4.out.cell 0
          have g1 : W4.cell? ⟨wB.heap.size, 1, none⟩ = some (.int .i64 j.t) := HP4.out.cell 1
          have g2 : W4.cell? ⟨wB.heap.size, 2, none⟩ = some (.int .i64 j.e) := HP4.out.cell 2
          have g3 : W4.cell? ⟨wB.heap.size, 3, none⟩ = some (.int .i64 j.r) := HP4.out.cell 3
          have g4 : W4.cell? ⟨wB.heap.size, 4, none⟩ = some (.int .i64 j.k) := HP4.out.cell 4
          have HC0 := Lib.hid (pinside_any j.f 0 j.t W4)
          rw [show (decide (0 ≤ j.f) && decide (j.f ≤ j.t)) = okI j.f 0 j.t from rfl] at HC0
          have HC1 := Lib.hid (pinside_any j.t 0 (m : Int) W4)
          rw [show (decide (0 ≤ j.t) && decide (j.t ≤ (m : Int))) = okI j.t 0 (m : Int) from rfl] at HC1
          have HC2 := Lib.hid (pinside_any j.e 0 1000 W4)
          rw [show (decide (0 ≤ j.e) && decide (j.e ≤ 1000)) = okI j.e 0 1000 from rfl] at HC2
          have HC3 := Lib.hid (pinside_any j.r 0 1000 W4)
          rw [show (decide (0 ≤ j.r) && decide (j.r ≤ 1000)) = okI j.r 0 1000 from rfl] at HC3
          have HC4 := Lib.hid (pinside_any j.k 1 9 W4)
          rw [show (decide (1 ≤ j.k) && decide (j.k ≤ 9)) = okI j.k 1 9 from rfl] at HC4
          cases hI0 : okI j.f 0 j.t with
          | false =>
            have HV := Lib.hid (HBAD.out (by unfold okJ; rw [hI0]; rfl))
            rw [hI0] at HC0
            clear hI0
            go_wp2_with fail
            refine HC0.out.mono ?_
            rintro _ w2 ⟨rfl, rfl⟩
            go_wp2
            go_ret
            exact ⟨by rw [HV.out]; rfl, HB4.out⟩
          | true =>
          cases hI1 : okI j.t 0 (m : Int) with
          | false =>
            have HV := Lib.hid (HBAD.out (by unfold okJ; rw [hI0, hI1]; rfl))
            rw [hI0] at HC0
            rw [hI1] at HC1
            clear hI0 hI1
            go_wp2_with fail
            refine HC0.out.mono ?_
            rintro _ w2 ⟨rfl, rfl⟩
            go_wp2_with fail
            refine HC1.out.mono ?_
            rintro _ w2 ⟨rfl, rfl⟩
            go_wp2
            go_ret
            exact ⟨by rw [HV.out]; rfl, HB4.out⟩
          | true =>
          cases hI2 : okI j.e 0 1000 with
          | false =>
            have HV := Lib.hid (HBAD.out (by unfold okJ; rw [hI0, hI1, hI2]; rfl))
            rw [hI0] at HC0
            rw [hI1] at HC1
            rw [hI2] at HC2
            clear hI0 hI1 hI2
            go_wp2_with fail
            refine HC0.out.mono ?_
            rintro _ w2 ⟨rfl, rfl⟩
            go_wp2_with fail
            refine HC1.out.mono ?_
            rintro _ w2 ⟨rfl, rfl⟩
            go_wp2_with fail
            refine HC2.out.mono ?_
            rintro _ w2 ⟨rfl, rfl⟩
            go_wp2
            go_ret
            exact ⟨by rw [HV.out]; rfl, HB4.out⟩
          | true =>
          cases hI3 : okI j.r 0 1000 with
          | false =>
            have HV := Lib.hid (HBAD.out (by unfold okJ; rw [hI0, hI1, hI2, hI3]; rfl))
            rw [hI0] at HC0
            rw [hI1] at HC1
            rw [hI2] at HC2
            rw [hI3] at HC3
            clear hI0 hI1 hI2 hI3
            go_wp2_with fail
            refine HC0.out.mono ?_
            rintro _ w2 ⟨rfl, rfl⟩
            go_wp2_with fail
            refine HC1.out.mono ?_
            rintro _ w2 ⟨rfl, rfl⟩
            go_wp2_with fail
            refine HC2.out.mono ?_
            rintro _ w2 ⟨rfl, rfl⟩
            go_wp2_with fail
            refine HC3.out.mono ?_
            rintro _ w2 ⟨rfl, rfl⟩
            go_wp2
            go_ret
            exact ⟨by rw [HV.out]; rfl, HB4.out⟩
          | true =>
          cases hI4 : okI j.k 1 9 with
          | false =>
            have HV := Lib.hid (HBAD.out (by unfold okJ; rw [hI0, hI1, hI2, hI3, hI4]; rfl))
            rw [hI0] at HC0
            rw [hI1] at HC1
            rw [hI2] at HC2
            rw [hI3] at HC3
            rw [hI4] at HC4
            clear hI0 hI1 hI2 hI3 hI4
            go_wp2_with fail
            refine HC0.out.mono ?_
            rintro _ w2 ⟨rfl, rfl⟩
            go_wp2_with fail
            refine HC1.out.mono ?_
            rintro _ w2 ⟨rfl, rfl⟩
            go_wp2_with fail
            refine HC2.out.mono ?_
            rintro _ w2 ⟨rfl, rfl⟩
            go_wp2_with fail
            refine HC3.out.mono ?_
            rintro _ w2 ⟨rfl, rfl⟩
            go_wp2_with fail
            refine HC4.out.mono ?_
            rintro _ w2 ⟨rfl, rfl⟩
            go_wp2
            go_ret
            exact ⟨by rw [HV.out]; rfl, HB4.out⟩
          | true =>
          have HI : Hid (okJ m j = true) := Lib.hid (by unfold okJ; rw [hI0, hI1, hI2, hI3, hI4]; rfl)
          rw [hI0] at HC0
          rw [hI1] at HC1
          rw [hI2] at HC2
          rw [hI3] at HC3
          rw [hI4] at HC4
          clear hI0 hI1 hI2 hI3 hI4
          go_wp2_with fail
          refine HC0.out.mono ?_
          rintro _ w2 ⟨rfl, rfl⟩
          go_wp2_with fail
          refine HC1.out.mono ?_
          rintro _ w2 ⟨rfl, rfl⟩
          go_wp2_with fail
          refine HC2.out.mono ?_
          rintro _ w2 ⟨rfl, rfl⟩
          go_wp2_with fail
          refine HC3.out.mono ?_
          rintro _ w2 ⟨rfl, rfl⟩
          go_wp2_with fail
          refine HC4.out.mono ?_
          rintro _ w2 ⟨rfl, rfl⟩
          go_wp2
          go_round
          case rel => exact ⟨k + 1, hlt, by go_num, fun i hi => by
              by_cases e : i = k
              · rw [e, HX.out]; exact HI.out
              · rw [← HM.out]; exact HOKJ.out i (by omega), HB4.out⟩
          case measure => exact meas_lt hlt
        · obtain rfl : k = J.length := by omega
          have HV := Lib.hid (validP_good HL1.out HL2.out HOK.out HOKJ.out)
          go_wp2
          go_ret
          exact ⟨by rw [HV.out]; rfl, HB2.out⟩
end Go.Proofs.Ythgkfdhkmkbioaa