/- Package plan: CheckPlan. -/
import Derived.Test.YthgkfdhkmkbioaaPe21
import Derived.Laws.CopyOwn
namespace Go.Proofs.Ythgkfdhkmkbioaa
open Go.RowKit Go.Shelf
attribute [local go_sem] Oper.semAt_some

/-- copy, from a slice of as many numbers. -/
theorem wp_copy_full {w w0 : World} {ops : Array Oper} {rest : List Oper} {o : Oper} {a : Act} {Q : Exit → Act → World → Prop} {g B n : Nat} {cs : List Value} {oo : Option Addr} {cap : Nat} {l : List Int} (hblk : Blk w g 3 cs.toArray) (hcs : cs.length = n) (hl : l.length = n) (hsrc : Ints w oo l) (hb : Below B w0 w) (hBg : B ≤ g) (hgd : o.guard = none) (d s : Operand)
    (ho : o.op = .call { callee := .builtin .copy, args := #[d, s], argTypes := #[23, 23] }) (hd : a.eval d = .slice (some ⟨g, 0, none⟩) n n) (hs : a.eval s = .slice oo n cap)
    (h : ∀ w', Hid (Blk w' g 3 (intsC l)) → Below B w0 w' → wpList Try.prog ops Q rest (a.put o.dst (goInt n)) w') : wpList Try.prog ops Q (o :: rest) a w := by
  refine wpList_copy_splice hgd d s 23 23 ho 3 Try.underlying23 (by kernel_rfl) (some ⟨g, 0, none⟩) oo n n n cap hd hs g 0 cs 3 hblk (l.map (Value.int .i64 ·)) (by simp [hl]) (fun hpos => ?_) (by simp [hl, hcs]) (fun v hv => ?_) B w0 hb hBg (fun w' hw hb' => ?_)
  · refine ⟨rfl, ?_⟩
    have h0 : 0 < l.length := by simpa using hpos
    obtain ⟨b, off, h1, _⟩ := hsrc 0 h0
    refine ⟨⟨b, off, none⟩, h1, fun j v hj => ?_⟩
    have hjl : j < l.length := by simpa using (List.getElem?_eq_some_iff.1 hj).1
    obtain ⟨b', off', h1', h2'⟩ := hsrc j hjl
    rw [h1] at h1'
    cases h1'
    rw [Addr.add_lit]
    refine h2'.trans ?_
    simp [hjl] at hj
    simp [hjl, hj]
  · simp only [List.mem_map] at hv
    obtain ⟨k, _, rfl⟩ := hv
    rfl
  · have e : splice cs 0 (l.map (Value.int .i64 ·)) = l.map (Value.int .i64 ·) := by
      simp [splice, hl, hcs]
    rw [e] at hw
    have h2 := h w' hw hb'
    simpa [hl] using h2

/-- A plan in memory. -/
def PlanM (w : World) (po : Option Addr) (n m : Nat) (P : Nat → Nat → Int) : Prop := ∀ i, i < n → ∃ b off ro rc, po = some ⟨b, off, none⟩ ∧ w.cell? ⟨b, off + i, none⟩ = some (.slice ro m rc) ∧ Ints w ro ((List.range m).map (P i))
theorem PlanM.later {w w' : World} {po : Option Addr} {n m : Nat} {P : Nat → Nat → Int} (h : PlanM w po n m P) (hb : Below w.heap.size w w') : PlanM w' po n m P := fun i hi => by
  obtain ⟨b, off, ro, rc, h1, h2, h3⟩ := h i hi
  exact ⟨b, off, ro, rc, h1, cell_kept hb h2, h3.later hb⟩
def rowL (P : Nat → Nat → Int) (i m : Nat) : List Int := (List.range m).map (P i)
theorem rowL_len (P : Nat → Nat → Int) (i m : Nat) : (rowL P i m).length = m := by simp [rowL]
theorem rowL_get {P : Nat → Nat → Int} {i m t : Nat} (h : t < m) : (rowL P i m).getD t 0 = P i t := by simp [rowL, h]
theorem rowL_sum (P : Nat → Nat → Int) (i m : Nat) : sumI (rowL P i m) = sumN m (P i) := by
  rw [sumI_sumN, rowL_len]
  exact sumN_congr fun t ht => rowL_get ht
theorem sumI_bound {l : List Int} {M : Int} (_hM : 0 ≤ M) (h : ∀ x ∈ l, 0 ≤ x ∧ x ≤ M) : 0 ≤ sumI l ∧ sumI l ≤ M * l.length := by
  induction l with
  | nil => simp [sumI]
  | cons x l ih =>
    have h1 := ih (fun y hy => h y (List.mem_cons_of_mem _ hy))
    have h2 := h x (List.mem_cons_self ..)
    have e : M * ((x :: l).length : Int) = M * (l.length : Int) + M := by rw [List.length_cons]; push_cast; rw [Int.mul_add, Int.mul_one]
    rw [e]
    show 0 ≤ x + sumI l ∧ x + sumI l ≤ _
    omega
/-- What is left of the supply: the first k jobs are taken off, and of the next one the slots ahead of c. -/
structure LeftL (J : List Jb) (S : List Int) (P : Nat → Nat → Int) (k c : Nat) (L : List Int) : Prop where
  len : L.length = S.length
  val : ∀ t, t < S.length → L.getD t 0 = S.getD t 0 - sumN k (fun i => P i t) - (if t < c then P k t else 0)
theorem LeftL.zero (J : List Jb) (S : List Int) (P : Nat → Nat → Int) : LeftL J S P 0 0 S := ⟨rfl, fun t _ => by rw [if_neg (by omega)]; show _ = S.getD t 0 - 0 - 0; omega⟩
theorem LeftL.step {J : List Jb} {S : List Int} {P : Nat → Nat → Int} {k c : Nat} {L : List Int} (h : LeftL J S P k c L) (hc : c < S.length) : LeftL J S P k (c + 1) (L.set c (L.getD c 0 - P k c)) := by
  refine ⟨by rw [List.length_set]; exact h.len, fun t ht => ?_⟩
  by_cases e : t = c
  · subst e
    rw [getD_set_self (by rw [h.len]; exact hc), h.val t ht, if_neg (by omega), if_pos (by omega)]
    omega
  · rw [getD_set_ne (fun h2 => e h2.symm), h.val t ht]
    by_cases e2 : t < c
    · rw [if_pos e2, if_pos (by omega)]
    · rw [if_neg e2, if_neg (by omega)]
theorem LeftL.next {J : List Jb} {S : List Int} {P : Nat → Nat → Int} {k : Nat} {L : List Int} (h : LeftL J S P k S.length L) : LeftL J S P (k + 1) 0 L :=
  ⟨h.len, fun t ht => by
    rw [h.val t ht, if_pos ht, if_neg (by omega)]
    show _ = S.getD t 0 - (sumN k (fun i => P i t) + P k t) - 0
    omega⟩
structure PlanF (J : List Jb) (S : List Int) (P : Nat → Nat → Int) : Prop where
  lo : ∀ i, i < J.length → ∀ t, t < S.length → 0 ≤ P i t ∧ P i t ≤ 1000
  pt : ∀ k, k ≤ J.length → ∀ t, t < S.length → 0 ≤ sumN k (fun i => P i t) ∧ sumN k (fun i => P i t) ≤ 1000 * k
  fin : ∀ t, t < S.length → 0 ≤ S.getD t 0 - sumN J.length (fun i => P i t)
  su : ∀ t, t < S.length → 0 ≤ S.getD t 0 ∧ S.getD t 0 ≤ 1000
theorem sumN_bd {f : Nat → Int} : ∀ {k : Nat}, (∀ i, i < k → 0 ≤ f i ∧ f i ≤ 1000) → 0 ≤ sumN k f ∧ sumN k f ≤ 1000 * k
  | 0, _ => ⟨Int.le_refl _, Int.le_refl _⟩
  | k + 1, h => by
    have h1 := sumN_bd (f := f) (k := k) (fun i hi => h i (by omega))
    have h2 := h k (by omega)
    show 0 ≤ sumN k f + f k ∧ sumN k f + f k ≤ _
    omega
theorem PlanOk.facts {J : List Jb} {S : List Int} {P : Nat → Nat → Int} (hv : ValidP J S) (h : PlanOk J S P) : PlanF J S P := by
  have hlo : ∀ i, i < J.length → ∀ t, t < S.length → 0 ≤ P i t ∧ P i t ≤ 1000 := fun i hi t ht => by
    have h1 := h.cap i hi t ht
    have h2 := hv.j _ (getJ_mem hi)
    have h3 := h2.r0
    have h4 := h2.r1
    refine ⟨h1.1, Int.le_trans h1.2 ?_⟩
    unfold rateAt
    split
    · exact h4
    · omega
  exact ⟨hlo, fun k hk t ht => sumN_bd fun i hi => hlo i (by omega) t ht, fun t ht => by have := h.fit t ht; omega, fun t ht => hv.s _ (by rw [List.getD_eq_getElem?_getD, List.getElem?_eq_getElem ht]; exact List.getElem_mem ht)⟩
/-- Is a slot one of a job's? As the program asks. -/
def inB (j : Jb) (t : Nat) : Bool := decide (j.f ≤ (t : Int)) && decide ((t : Int) ≤ j.t - 1)
theorem inB_rate {j : Jb} {t : Nat} : rateAt j t = if inB j t = true then j.r else 0 := by
  unfold rateAt inB
  by_cases h : j.f ≤ (t : Int) ∧ (t : Int) < j.t
  · rw [if_pos h, if_pos (by rw [Bool.and_eq_true]; exact ⟨decide_eq_true h.1, decide_eq_true (by omega)⟩)]
  · rw [if_neg h, if_neg (by
      rw [Bool.and_eq_true]
      intro h2
      exact h ⟨of_decide_eq_true h2.1, by have := of_decide_eq_true h2.2; omega⟩)]
set_option maxRecDepth 100000 in
set_option maxHeartbeats 16000000 in
theorem checkPlan_ok (w : World) (J : List Jb) (S : List Int) (P : Nat → Nat → Int) (oj os po : Option Addr) (cj cs pc : Nat) (hj : JobsM w oj J) (hs : Ints w os S) (hm : PlanM w po J.length S.length P) (hv : ValidP J S) (hp : PlanOk J S P) :
    Calls Try.prog 9 #[.slice oj J.length cj, .slice os S.length cs, .slice po J.length pc] w (Ret (.bool true) w) := by
  have HJ := Lib.hid hj
  have HS := Lib.hid hs
  have HPM := Lib.hid hm
  have HV := Lib.hid hv
  have HP := Lib.hid hp
  have HF := Lib.hid (hp.facts hv)
  have hn12 := hv.j12
  have hm24 := hv.s24
  have HVB := Lib.hid (validP_iff.2 hv)
  clear hj hs hm hv hp
  have hmk := run_makeN (P := Try.prog) 23 3 (.int .i64 0) 1 8 Try.underlying23 (by kernel_rfl) S.length (by omega) (by omega)
  rw [show (Value.int .i64 0).cells = #[.int .i64 0] from rfl, Nat.mul_one, made_intsN] at hmk
  go_enter Try.func9, Try.ntmps9
  have HVA := Lib.hid (pvalid_any J S oj os cj cs w HJ.out HS.out)
  rw [HVB.out] at HVA
  go_wp2_with fail
  refine HVA.out.mono ?_
  rintro _ W2 ⟨rfl, hb2⟩
  have HB2 := Lib.hid hb2
  clear hb2 HVA
  go_upto_region 4 with (fail)
  have HL3 := Lib.hid (Blk.new W2 3 (intsC (List.replicate S.length 0)))
  have HB3 := Lib.hid (below_alloc HB2.out (.cells (intsC (List.replicate S.length 0)) 3))
  have HZ3 := Lib.hid HB2.out.size
  obtain ⟨W3, hW3⟩ : ∃ W, W = W2.alloc (.cells (intsC (List.replicate S.length 0)) 3) := ⟨_, rfl⟩
  obtain ⟨LB, hLB⟩ : ∃ B, W2.heap.size = B := ⟨_, rfl⟩
  rw [← hW3] at HL3 HB3 ⊢
  rw [hLB] at HL3 HZ3 ⊢
  clear hW3 hLB HB2 hmk
  have HSI := Lib.hid (HS.out.later HB3.out)
  obtain ⟨Z, hZ⟩ : ∃ Z, (List.replicate S.length (0 : Int)).map (Value.int .i64 ·) = Z := ⟨_, rfl⟩
  have HZC : Hid (Blk W3 LB 3 Z.toArray) := Lib.hid (by rw [← hZ]; exact HL3.out)
  have HZL : Hid (Z.length = S.length) := Lib.hid (by rw [← hZ]; simp)
  clear hZ HL3
  go_wp2_with (with_reducible refine wp_copy_full (g := LB) (o := ⟨some 31, _, _, _, _, _⟩) HZC.out HZL.out rfl HSI.out HB3.out HZ3.out rfl _ _ rfl rfl rfl ?_)
  intro W4 hl4 hb4
  have HL4 := hl4
  have HB4 := Lib.hid hb4
  clear hl4 hb4 HZC HZL HB3 HSI
  go_wp2_with fail
  go_loopw [34] (fun i wr => ∃ (k : Nat) (L : List Int), k ≤ J.length ∧ i = .int .i64 k ∧ Below w.heap.size w wr ∧ Blk wr LB 3 (intsC L) ∧ LeftL J S P k 0 L) (fun i _ => J.length - (intOf i).toNat)
  case atStart => exact ⟨0, S, Nat.zero_le _, rfl, HB4.out, HL4.out, LeftL.zero J S P⟩
  case round =>
    obtain ⟨k, L, hk, rfl, hb, hl, hll⟩ := hrel
    obtain ⟨wA, rfl⟩ : ∃ wA : World, wA = wr := ⟨_, rfl⟩
    have HB := Lib.hid hb
    have HL := Lib.hid hl
    have HLL := Lib.hid hll
    clear hb hl hll HB4 HL4
    by_cases hlt : k < J.length
    · obtain ⟨b, off, rfl, c0, c1, c2, c3, c4⟩ := (HJ.out.later HB.out) k hlt
      obtain ⟨pb, poff, ro, rc, rfl, r0, r1⟩ := HPM.out k hlt
      have hej := HV.out.j _ (getJ_mem hlt)
      have HCP := Lib.hid (fun t (ht : t < S.length) => HP.out.cap k hlt t ht)
      have HMET := Lib.hid (HP.out.met k hlt)
      have HPF := Lib.hid (HF.out.lo k hlt)
      have HPT := Lib.hid (HF.out.pt k hk)
      have HRO := Lib.hid (show Ints w ro (rowL P k S.length) from r1)
      have HR0 := Lib.hid r0
      replace r0 := cell_kept HB.out r0
      clear r1
      obtain ⟨j, hj⟩ : ∃ j, getJ J k = j := ⟨_, rfl⟩
      rw [hj] at c0 c1 c2 c3 c4 hej HCP HMET
      have hjt0 := hej.ft
      have hjf0 := hej.f0
      have hjt1 := hej.tm
      have hjr0 := hej.r0
      have hjr1 := hej.r1
      clear hj hej
      have y1 : (0 : Int) ≤ (k : Int) := by omega
      have y2 : (k : Int) < (J.length : Int) := by omega
      go_upto_region 8 with (fail)
      obtain ⟨W5, hW5⟩ : ∃ W, W = wA.alloc (.cells (jobC j) 27) := ⟨_, rfl⟩
      have hb5 : Below wA.heap.size wA W5 := by rw [hW5]; exact below_alloc (Below.refl _ _) _
      have HJB := Lib.hid (show Blk W5 wA.heap.size 27 (jobC j) by rw [hW5]; exact Blk.new ..)
      have HB5 := Lib.hid (below_step HB.out hb5)
      have HL5 := Lib.hid (HL.out.later hb5)
      have HNJ := Lib.hid (show wA.heap.size ≠ LB from fun e => by have := HL.out.lt; omega)
      replace r0 := cell_kept hb5 r0
      rw [← hW5]
      clear hW5 hb5 c0 c1 c2 c3 c4 HB HL
      obtain ⟨JB, hJB⟩ : ∃ x, wA.heap.size = x := ⟨_, rfl⟩
      rw [hJB] at HJB HNJ ⊢
      clear hJB
      go_wp2_with fail
      clear r0
      go_loopw [52] (fun i wr => ∃ (c : Nat) (L : List Int), c ≤ S.length ∧ i = .int .i64 c ∧ Below w.heap.size w wr ∧ Blk wr LB 3 (intsC L) ∧ LeftL J S P k c L ∧ Blk wr JB 27 (jobC j)) (fun i _ => S.length - (intOf i).toNat)
      case atStart => exact ⟨0, L, Nat.zero_le _, rfl, HB5.out, HL5.out, HLL.out, HJB.out⟩
      case round =>
        obtain ⟨c, L, hc, rfl, hb, hl, hll, hjb⟩ := hrel
        obtain ⟨wB, rfl⟩ : ∃ wB : World, wB = wr := ⟨_, rfl⟩
        clear HB5 HL5 HLL HJB
        have HB := Lib.hid hb
        have HL := Lib.hid hl
        have HLL := Lib.hid hll
        have HJB := Lib.hid hjb
        clear hb hl hll hjb
        by_cases hct : c < S.length
        · obtain ⟨b2, off2, rfl, x0⟩ := (HRO.out.later HB.out) c (by rw [rowL_len]; exact hct)
          rw [rowL_get hct] at x0
          have hb0 := HB.out
          have HST := Lib.hid (HLL.out.step hct)
          have hcp := HCP.out c hct
          have hpf := HPF.out c hct
          have hlv := HLL.out.val c hct
          rw [if_neg (Nat.lt_irrefl _)] at hlv
          have hpt := HPT.out c hct
          have hsu := HF.out.su c hct
          have HLN := HLL.out.len
          have l0 : wB.cell? ⟨LB, c, none⟩ = some (.int .i64 (L.getD c 0)) := (HL.out.cell c).trans (intsC_get (by rw [HLN]; exact hct))
          have lf := HL.out.frozen c
          have HSET := Lib.hid (fun x => show Blk (wB.setCell ⟨LB, c, none⟩ (.int .i64 x)) LB 3 (intsC (L.set c x)) from by rw [← intsC_set]; exact HL.out.set c _)
          obtain ⟨z, hz⟩ : ∃ z, L.getD c 0 = z := ⟨_, rfl⟩
          obtain ⟨x, hx⟩ : ∃ x, P k c = x := ⟨_, rfl⟩
          have HX := Lib.hid hx
          rw [hz] at l0 hlv HST
          rw [hx] at x0 hcp hpf HST
          have hz1 : -13000 ≤ z ∧ z ≤ 1000 := by omega
          rw [inB_rate] at hcp
          clear hz hx hlv hpt hsu HLN hb0
          have g0 : wB.cell? ⟨JB, 0, none⟩ = some (.int .i64 j.f) := HJB.out.cell 0
          have g1 : wB.cell? ⟨JB, 1, none⟩ = some (.int .i64 j.t) := HJB.out.cell 1
          have g3 : wB.cell? ⟨JB, 3, none⟩ = some (.int .i64 j.r) := HJB.out.cell 3
          have HC0 := Lib.hid (pinside_any (c : Int) j.f (j.t - 1) wB)
          rw [show (decide (j.f ≤ (c : Int)) && decide ((c : Int) ≤ j.t - 1)) = inB j c from rfl] at HC0
          have e1 : IntKind.i64.wrap (j.t - 1) = j.t - 1 := IntWalk.i64_in _ (by omega)
          have e2 : IntKind.i64.wrap (z - x) = z - x := IntWalk.i64_in _ (by omega)
          have z1 : (0 : Int) ≤ (c : Int) := by omega
          have z2 : (c : Int) < (S.length : Int) := by omega
          cases hI : inB j c with
          | true =>
            rw [hI] at HC0
            rw [hI, if_pos rfl] at hcp
            have HC1 := Lib.hid (pinside_any x 0 j.r wB)
            rw [decide_eq_true hcp.1, decide_eq_true hcp.2, Bool.and_true] at HC1
            clear hI hcp
            go_wp2_with fail
            refine HC0.out.mono ?_
            rintro _ _ ⟨rfl, rfl⟩
            go_wp2_with fail
            refine HC1.out.mono ?_
            rintro _ _ ⟨rfl, rfl⟩
            go_wp2
            refine ⟨⟨c + 1, _, hct, by go_num, HB.out.setCell HZ3.out _, HSET.out (z - x), HST.out, HJB.out.other (p := ⟨LB, c, none⟩) HNJ.out _⟩, meas_lt hct⟩
          | false =>
            rw [hI] at HC0
            rw [hI, if_neg (by decide)] at hcp
            have HC1 := Lib.hid (pinside_any x 0 0 wB)
            rw [decide_eq_true hcp.1, decide_eq_true hcp.2, Bool.and_true] at HC1
            clear hI hcp
            go_wp2_with fail
            refine HC0.out.mono ?_
            rintro _ _ ⟨rfl, rfl⟩
            go_wp2_with fail
            refine HC1.out.mono ?_
            rintro _ _ ⟨rfl, rfl⟩
            go_wp2
            refine ⟨⟨c + 1, _, hct, by go_num, HB.out.setCell HZ3.out _, HSET.out (z - x), HST.out, HJB.out.other (p := ⟨LB, c, none⟩) HNJ.out _⟩, meas_lt hct⟩
        · obtain rfl : c = S.length := by omega
          clear hct hc
          have HSM := Lib.hid (fun (W : World) (hb : Below wB.heap.size wB W) => sum_any ro rc (rowL P k S.length) W ((HRO.out.later HB.out).later hb) (by rw [rowL_len]; omega) (fun q hq => by
            have h1 := sumI_bound (M := 1000) (by decide) (l := (rowL P k S.length).take q) (fun x hx => by
              have h2 := List.mem_of_mem_take hx
              unfold rowL at h2
              obtain ⟨t, ht, rfl⟩ := List.mem_map.1 h2
              exact HPF.out t (List.mem_range.1 ht))
            have h3 : ((rowL P k S.length).take q).length ≤ S.length := by rw [List.length_take, rowL_len]; omega
            omega))
          rw [rowL_sum, rowL_len, HMET.out] at HSM
          have g2 : wB.cell? ⟨JB, 2, none⟩ = some (.int .i64 j.e) := HJB.out.cell 2
          have h0 := cell_kept HB.out HR0.out
          have dn : (j.e != j.e) = false := by simp
          go_wp2_with fail
          refine wp_region_B 8 (fun w'' => Below wB.heap.size wB w'') mixed (by kernel_rfl) (below_closed wB) (Below.refl _ _).drew ?_
          simp only [List.take_succ_cons, List.take_zero, List.drop_succ_cons, List.drop_zero]
          intro KR hR
          have HR := Lib.hid hR
          clear hR
          have HCC := Lib.hid (show ∀ w'', Below wB.heap.size wB w'' → w''.cell? ⟨pb, poff + k, none⟩ = some (.slice ro S.length rc) ∧ w''.cell? ⟨JB, 2, none⟩ = some (.int .i64 j.e) from fun w'' hw => ⟨cell_kept hw h0, cell_kept hw g2⟩)
          apply wpB_val rfl
          · (intro w' hw'; go_simp; with_reducible rfl)
          simp only [Act.put, List.setIfInBounds_toArray, List.set_cons_zero, List.set_cons_succ]
          apply wpB_val rfl
          · (intro w' hw'; go_simp; with_reducible rfl)
          simp only [Act.put, List.setIfInBounds_toArray, List.set_cons_zero, List.set_cons_succ]
          apply wpB_val rfl
          · (intro w' hw'; go_simp; with_reducible rfl)
          simp only [Act.put, List.setIfInBounds_toArray, List.set_cons_zero, List.set_cons_succ]
          apply wpB_val rfl
          · (intro w' hw'; obtain ⟨c0, c1⟩ := HCC.out w' hw'; go_simp; with_reducible rfl)
          simp only [Act.put, List.setIfInBounds_toArray, List.set_cons_zero, List.set_cons_succ]
          apply wpB_call 19 #[.slice ro S.length rc] rfl (v := .int .i64 j.e)
          · (intro w'; go_simp)
          · exact fun w' hw' => HSM.out w' hw'
          simp only [Act.put, List.setIfInBounds_toArray, List.set_cons_zero, List.set_cons_succ]
          apply wpB_val rfl
          · (intro w' hw'; go_simp; with_reducible rfl)
          simp only [Act.put, List.setIfInBounds_toArray, List.set_cons_zero, List.set_cons_succ]
          apply wpB_val rfl
          · (intro w' hw'; obtain ⟨c0, c1⟩ := HCC.out w' hw'; go_simp; with_reducible rfl)
          simp only [Act.put, List.setIfInBounds_toArray, List.set_cons_zero, List.set_cons_succ]
          apply wpB_val rfl
          · (intro w' hw'; go_simp; with_reducible rfl)
          simp only [Act.put, List.setIfInBounds_toArray, List.set_cons_zero, List.set_cons_succ]
          refine wpB_nil (HR.out _ (fun w2 hw2 => ?_))
          clear HR HCC
          have HBn := Lib.hid (HB.out.trans (hw2.mono HB.out.size))
          have HLn := Lib.hid (HL.out.later hw2)
          clear hw2 g2 h0
          go_wp2
          go_round
          case rel => exact ⟨k + 1, L, hlt, by go_num, HBn.out, HLn.out, HLL.out.next⟩
          case measure => exact meas_lt hlt
    · obtain rfl : k = J.length := by omega
      clear hlt hk
      go_wp2_with fail
      go_loop [89] (fun i => ∃ c : Nat, c ≤ S.length ∧ i = .int .i64 c) (fun i => S.length - (intOf i).toNat)
      case atStart => exact ⟨0, Nat.zero_le _, rfl⟩
      case round =>
        obtain ⟨c, hc, rfl⟩ := hrel
        by_cases hct : c < S.length
        · have hlv := HLL.out.val c hct
          rw [if_neg (by omega)] at hlv
          have hfin := HF.out.fin c hct
          have HLN := HLL.out.len
          have l0 : wA.cell? ⟨LB, c, none⟩ = some (.int .i64 (L.getD c 0)) := (HL.out.cell c).trans (intsC_get (by rw [HLN]; exact hct))
          obtain ⟨z, hz⟩ : ∃ z, L.getD c 0 = z := ⟨_, rfl⟩
          rw [hz] at l0 hlv
          have dz : decide (z < 0) = false := decide_eq_false (by omega)
          have z1 : (0 : Int) ≤ (c : Int) := by omega
          have z2 : (c : Int) < (S.length : Int) := by omega
          clear hz hlv hfin HLN
          go_wp2
          go_round
          case rel => exact ⟨c + 1, hct, by go_num⟩
          case measure => exact meas_lt hct
        · obtain rfl : c = S.length := by omega
          go_wp2
          go_ret
          exact ⟨rfl, HB.out⟩
end Go.Proofs.Ythgkfdhkmkbioaa
