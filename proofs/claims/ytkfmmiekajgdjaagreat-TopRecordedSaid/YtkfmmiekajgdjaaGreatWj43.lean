/- Package auditor: cost. -/
import Derived.Test.YtkfmmiekajgdjaaGreatWi43
namespace Go.Proofs.YtkfmmiekajgdjaaGreat
open Go.RowKit
attribute [local go_sem] Oper.semAt_some

/-- The energy of the slices in whose minutes an article applies. -/
def engA (a : Art) (c : ClA) (l : List (Int × Int)) : Int := l.foldl (fun n x => if appA a c x.1 then n + x.2 else n) 0
theorem engA_take {a : Art} {c : ClA} {l : List (Int × Int)} {k : Nat} (h : k < l.length) : engA a c (l.take (k + 1)) = if appA a c (l.getD k (0, 0)).1 then engA a c (l.take k) + (l.getD k (0, 0)).2 else engA a c (l.take k) := by
  rw [take_pr h]
  unfold engA
  rw [List.foldl_append]
  rfl
theorem engA_bound (a : Art) (c : ClA) {l : List (Int × Int)} (hl : ∀ x ∈ l, 0 ≤ x.2 ∧ x.2 ≤ 10000) : ∀ k, k ≤ l.length → 0 ≤ engA a c (l.take k) ∧ engA a c (l.take k) ≤ 10000 * k
  | 0, _ => by simp [engA]
  | k + 1, h => by
    have ih := engA_bound a c hl k (by omega)
    have hx : 0 ≤ (l.getD k (0, 0)).2 ∧ (l.getD k (0, 0)).2 ≤ 10000 := hl _ (by rw [List.getD_eq_getElem?_getD, List.getElem?_eq_getElem (by omega : k < l.length)]; exact List.getElem_mem _)
    rw [engA_take (by omega)]
    split
    · push_cast; omega
    · push_cast; omega
/-- A session that follows from readings. -/
structure SesOk (s : SesA) : Prop where
  f0 : 0 ≤ s.f
  fe : s.f ≤ s.e
  et : s.e ≤ s.t
  ft : s.f < s.t
  t1 : s.t ≤ 52560000
  len : s.t - s.f ≤ 2880
  n : s.l.length ≤ 48
  all : ∀ x ∈ s.l, s.f ≤ x.1 ∧ x.1 < s.e ∧ 0 ≤ x.2 ∧ x.2 ≤ 10000
/-- What an article costs. -/
def costA (a : Art) (c : ClA) (s : SesA) : Int :=
  if a.k = 1 then (if appA a c s.f then a.p else 0)
  else if a.k = 2 then (2 * a.p * engA a c s.l + 1000) / 2000
  else if a.k = 3 then startedA a c s.f s.t
  else if a.k = 4 then startedA a c s.e s.t
  else 0
theorem art_price {a : Art} (h : artA a = true) : 0 ≤ a.p ∧ a.p ≤ 1000000 := by
  unfold artA tailB insB at h
  simp only [Bool.and_eq_true] at h
  have h2 := h.2
  split at h2
  · simp only [Bool.and_eq_true, decide_eq_true_eq] at h2; exact h2.1
  · split at h2
    · simp only [Bool.and_eq_true, decide_eq_true_eq] at h2; exact h2.1
    · split at h2
      · simp only [Bool.and_eq_true, decide_eq_true_eq] at h2; omega
      · simp only [Bool.and_eq_true, decide_eq_true_eq] at h2; exact h2.1
theorem art_time {a : Art} (h : artA a = true) (hk : a.k = 3 ∨ a.k = 4) : 1 ≤ a.u ∧ a.u ≤ 1440 ∧ 0 ≤ a.r ∧ a.r ≤ 1440 := by
  unfold artA tailB insB at h
  rw [if_pos hk] at h
  simp only [Bool.and_eq_true, decide_eq_true_eq] at h
  exact ⟨h.2.2.1.1, h.2.2.1.2, h.2.2.2.1, h.2.2.2.2⟩
theorem half_bound {p n : Int} (p0 : 0 ≤ p) (p1 : p ≤ 1000000) (n0 : 0 ≤ n) (n1 : n ≤ 480000) : 0 ≤ 2 * p * n ∧ 2 * p * n ≤ 960000000000 := by
  refine ⟨Int.mul_nonneg (by omega) n0, ?_⟩
  calc 2 * p * n ≤ 2000000 * n := Int.mul_le_mul_of_nonneg_right (by omega) n0
    _ ≤ 960000000000 := by omega
theorem costA_bound {a : Art} {c : ClA} {s : SesA} (ha : artA a = true) (hs : SesOk s) : 0 ≤ costA a c s ∧ costA a c s ≤ 2880000000 := by
  have hp := art_price ha
  unfold costA
  split
  · split <;> omega
  · split
    · have := engA_bound a c (fun x hx => ⟨(hs.all x hx).2.2.1, (hs.all x hx).2.2.2⟩) s.l.length (Nat.le_refl _)
      rw [List.take_length] at this
      have hn := hs.n
      have h2 := half_bound hp.1 hp.2 this.1 (by omega)
      omega
    · have hcl1 := cntA_le a c s.f (s.t - s.f).toNat
      have hcl2 := cntA_le a c s.e (s.t - s.e).toNat
      have h1 := hs.fe; have h2 := hs.et; have h3 := hs.len
      split
      · next hk =>
        have ht := art_time ha (Or.inl hk)
        exact started_bounds rfl hp.1 hp.2 ht.1 ht.2.1 ht.2.2.1 (by omega) (by omega)
      · split
        · next hk =>
          have ht := art_time ha (Or.inr hk)
          exact started_bounds rfl hp.1 hp.2 ht.1 ht.2.1 ht.2.2.1 (by omega) (by omega)
        · omega

set_option maxRecDepth 100000 in
set_option maxHeartbeats 16000000 in
theorem cost_any (w0 w : World) (g : Nat) (c : ClA) (s : SesA) (b : BilA) (z : Int) (a : Art) (h : ExM w0 w g c s b z) (hsl : Twos w s.o s.l) (hd : datA c.off c.chg c.hol = true) (ha : artA a = true) (hs : SesOk s) : Calls Tryz.prog 78 #[.pointer (some ⟨g, 0, none⟩), artV a] w (Ret (.int .i64 (costA a c s)) w) := by
  have HX := Lib.hid h
  have HSL := Lib.hid hsl
  have HS := Lib.hid hs
  have HA := Lib.hid ha
  clear h hsl hs ha
  obtain ⟨V, hV⟩ : ∃ V, costA a c s = V := ⟨_, rfl⟩
  rw [hV]
  have HV := Lib.hid hV
  clear hV
  go_enter Tryz.func78, Tryz.ntmps78
  go_upto_region 1 with (fail)
  obtain ⟨wa, hwa⟩ : ∃ W1, W1 = w.alloc (.cells #[.int .i64 a.k, .int .i64 a.d, .int .i64 a.f, .int .i64 a.t, .int .i64 a.p, .int .i64 a.u, .int .i64 a.r] 72) := ⟨_, rfl⟩
  have HQa := Lib.hid (show Blk wa w.heap.size 72 #[.int .i64 a.k, .int .i64 a.d, .int .i64 a.f, .int .i64 a.t, .int .i64 a.p, .int .i64 a.u, .int .i64 a.r] by rw [hwa]; exact Blk.new _ _ _)
  have HBa := Lib.hid (show Below w.heap.size w wa by rw [hwa]; exact below_alloc (Below.refl _ _) _)
  try rw [← hwa]
  clear hwa
  replace HX := Lib.hid (HX.out.later HBa.out)
  replace HSL := Lib.hid (HSL.out.later HBa.out)
  obtain ⟨Q, hQ⟩ : ∃ B, w.heap.size = B := ⟨_, rfl⟩
  rw [hQ] at HQa ⊢
  clear hQ
  have x15 : wa.cell? ⟨g, 15, none⟩ = some (.int .i64 s.f) := HX.out.blk.cell 15
  have x16 : wa.cell? ⟨g, 16, none⟩ = some (.int .i64 s.t) := HX.out.blk.cell 16
  have x17 : wa.cell? ⟨g, 17, none⟩ = some (.int .i64 s.e) := HX.out.blk.cell 17
  have x18 : wa.cell? ⟨g, 18, none⟩ = some (.slice s.o s.l.length s.cap) := HX.out.blk.cell 18
  go_upto_region 2 with (fail)
  clear x15 x16 x17 x18
  obtain ⟨W1, hW1⟩ : ∃ W1, W1 = wa.alloc (.cells #[.int .i64 s.f, .int .i64 s.t, .int .i64 s.e, .slice s.o s.l.length s.cap] 35) := ⟨_, rfl⟩
  have HQ := Lib.hid (show Blk W1 Q 72 #[.int .i64 a.k, .int .i64 a.d, .int .i64 a.f, .int .i64 a.t, .int .i64 a.p, .int .i64 a.u, .int .i64 a.r] by rw [hW1]; exact HQa.out.alloc _)
  have HS1 := Lib.hid (show Blk W1 wa.heap.size 35 #[.int .i64 s.f, .int .i64 s.t, .int .i64 s.e, .slice s.o s.l.length s.cap] by rw [hW1]; exact Blk.new _ _ _)
  have HB1 := Lib.hid (show Below wa.heap.size wa W1 by rw [hW1]; exact below_alloc (Below.refl _ _) _)
  have HB := Lib.hid (below_step HBa.out HB1.out)
  try rw [← hW1]
  clear hW1 HQa HBa
  replace HX := Lib.hid (HX.out.later HB1.out)
  replace HSL := Lib.hid (HSL.out.later HB1.out)
  clear HB1
  obtain ⟨R, hR⟩ : ∃ B, wa.heap.size = B := ⟨_, rfl⟩
  rw [hR] at HS1 ⊢
  clear hR
  have c0 : W1.cell? ⟨Q, 0, none⟩ = some (.int .i64 a.k) := HQ.out.cell 0
  have c1 : W1.cell? ⟨Q, 1, none⟩ = some (.int .i64 a.d) := HQ.out.cell 1
  have c2 : W1.cell? ⟨Q, 2, none⟩ = some (.int .i64 a.f) := HQ.out.cell 2
  have c3 : W1.cell? ⟨Q, 3, none⟩ = some (.int .i64 a.t) := HQ.out.cell 3
  have c4 : W1.cell? ⟨Q, 4, none⟩ = some (.int .i64 a.p) := HQ.out.cell 4
  have c5 : W1.cell? ⟨Q, 5, none⟩ = some (.int .i64 a.u) := HQ.out.cell 5
  have c6 : W1.cell? ⟨Q, 6, none⟩ = some (.int .i64 a.r) := HQ.out.cell 6
  have s0 : W1.cell? ⟨R, 0, none⟩ = some (.int .i64 s.f) := HS1.out.cell 0
  have s1 : W1.cell? ⟨R, 1, none⟩ = some (.int .i64 s.t) := HS1.out.cell 1
  have s2 : W1.cell? ⟨R, 2, none⟩ = some (.int .i64 s.e) := HS1.out.cell 2
  have s3 : W1.cell? ⟨R, 3, none⟩ = some (.slice s.o s.l.length s.cap) := HS1.out.cell 3
  have HP := Lib.hid (art_price HA.out)
  by_cases k1 : a.k = 1
  · have d1 : (a.k == 1) = true := by simpa using k1
    have HV1 := Lib.hid (show (if appA a c s.f then a.p else 0) = V by rw [← HV.out]; unfold costA; rw [if_pos k1])
    clear k1
    have HC := Lib.hid (applies_any w0 W1 g c s b z a s.f HX.out hd HS.out.f0 (by have := HS.out.ft; have := HS.out.t1; omega))
    obtain ⟨d, hdd⟩ : ∃ d, appA a c s.f = d := ⟨_, rfl⟩
    rw [hdd] at HV1 HC
    clear hdd
    go_wp2_with fail
    refine HC.out.mono ?_
    rintro _ w2 ⟨rfl, hb⟩
    have HB2 := Lib.hid (below_step HB.out hb)
    have e4 := cell_kept hb c4
    clear hb HC c0 c1 c2 c3 c4 c5 c6 s0 s1 s2 s3
    cases d with
    | true =>
      obtain rfl : a.p = V := HV1.out
      go_wp2
      go_ret
      exact ⟨rfl, HB2.out⟩
    | false =>
      obtain rfl : 0 = V := HV1.out
      go_wp2
      go_ret
      exact ⟨rfl, HB2.out⟩
  have d1 : (a.k == 1) = false := by simpa using k1
  by_cases k2 : a.k = 2
  · have d2 : (a.k == 2) = true := by simpa using k2
    have HV1 := Lib.hid (show (2 * a.p * engA a c s.l + 1000) / 2000 = V by rw [← HV.out]; unfold costA; rw [if_neg k1, if_pos k2])
    clear k1 k2
    have hn48 : (s.l.length : Int) ≤ 48 := by have := HS.out.n; omega
    go_wp2
    clear s0 s1 s2 s3 c0 c1 c2 c3 c4 c5 c6 d1 d2
    go_loopw [6, 29] (fun v i wr => ∃ k : Nat, k ≤ s.l.length ∧ i = .int .i64 k ∧ v = .int .i64 (engA a c (s.l.take k)) ∧ Below W1.heap.size W1 wr) (fun _ i _ => s.l.length - (intOf i).toNat)
    case atStart => exact ⟨0, Nat.zero_le _, rfl, rfl, Below.refl _ _⟩
    case round =>
      obtain ⟨k, hk, rfl, rfl, hb⟩ := hrel
      obtain ⟨wA, rfl⟩ : ∃ wA : World, wA = wr := ⟨_, rfl⟩
      have HBR := Lib.hid hb
      clear hb
      have HEB := Lib.hid (engA_bound a c (fun x hx => ⟨(HS.out.all x hx).2.2.1, (HS.out.all x hx).2.2.2⟩) k hk)
      by_cases hlt : k < s.l.length
      · have HET := Lib.hid (engA_take (a := a) (c := c) hlt)
        obtain ⟨gx, fx, hgo, x0, x1⟩ := (HSL.out.later HBR.out) k hlt
        have HMEM := Lib.hid (HS.out.all (s.l.getD k (0, 0)) (by rw [List.getD_eq_getElem?_getD, List.getElem?_eq_getElem hlt]; exact List.getElem_mem hlt))
        obtain ⟨x, hx⟩ : ∃ x, s.l.getD k (0, 0) = x := ⟨_, rfl⟩
        rw [hx] at HET HMEM x0 x1
        clear hx
        obtain ⟨E, hE⟩ : ∃ E, engA a c (s.l.take k) = E := ⟨_, rfl⟩
        rw [hE] at HET HEB ⊢
        clear hE
        rw [hgo]
        have y1 : (0 : Int) ≤ (k : Int) := by omega
        have y2 : (k : Int) < (s.l.length : Int) := by omega
        have e0 : 0 ≤ E := HEB.out.1
        have e1 : E ≤ 480000 := by have := HEB.out.2; omega
        have e2 : 0 ≤ x.2 := HMEM.out.2.2.1
        have e3 : x.2 ≤ 10000 := HMEM.out.2.2.2
        go_upto_region 11 with (fail)
        obtain ⟨wB, hwB⟩ : ∃ W, W = wA.alloc (.cells #[.int .i64 x.1, .int .i64 x.2] 50) := ⟨_, rfl⟩
        have HXS := Lib.hid (show Blk wB wA.heap.size 50 #[.int .i64 x.1, .int .i64 x.2] by rw [hwB]; exact Blk.new _ _ _)
        have HB3 := Lib.hid (below_step HBR.out (show Below wA.heap.size wA wB by rw [hwB]; exact below_alloc (Below.refl _ _) _))
        try rw [← hwB]
        clear hwB x0 x1
        obtain ⟨S, hS⟩ : ∃ B, wA.heap.size = B := ⟨_, rfl⟩
        rw [hS] at HXS ⊢
        clear hS
        have z0 : wB.cell? ⟨S, 0, none⟩ = some (.int .i64 x.1) := HXS.out.cell 0
        have z1 : wB.cell? ⟨S, 1, none⟩ = some (.int .i64 x.2) := HXS.out.cell 1
        have HQB := Lib.hid (HQ.out.later HB3.out)
        have c0 : wB.cell? ⟨Q, 0, none⟩ = some (.int .i64 a.k) := HQB.out.cell 0
        have c1 : wB.cell? ⟨Q, 1, none⟩ = some (.int .i64 a.d) := HQB.out.cell 1
        have c2 : wB.cell? ⟨Q, 2, none⟩ = some (.int .i64 a.f) := HQB.out.cell 2
        have c3 : wB.cell? ⟨Q, 3, none⟩ = some (.int .i64 a.t) := HQB.out.cell 3
        have c4 : wB.cell? ⟨Q, 4, none⟩ = some (.int .i64 a.p) := HQB.out.cell 4
        have c5 : wB.cell? ⟨Q, 5, none⟩ = some (.int .i64 a.u) := HQB.out.cell 5
        have c6 : wB.cell? ⟨Q, 6, none⟩ = some (.int .i64 a.r) := HQB.out.cell 6
        have HC := Lib.hid (applies_any w0 wB g c s b z a x.1 (HX.out.later HB3.out) hd (by have := HS.out.f0; have := HMEM.out.1; omega) (by have := HS.out.et; have := HS.out.t1; have := HMEM.out.2.1; omega))
        obtain ⟨d, hdd⟩ : ∃ d, appA a c x.1 = d := ⟨_, rfl⟩
        rw [hdd] at HET HC
        clear hdd
        go_wp2_with fail
        refine HC.out.mono ?_
        rintro _ wC ⟨rfl, hb⟩
        have HB4 := Lib.hid (below_step HB3.out hb)
        have z1' := cell_kept hb z1
        clear hb HC z0 z1 c0 c1 c2 c3 c4 c5 c6
        cases d with
        | true =>
          have HE2 := Lib.hid (show engA a c (s.l.take (k + 1)) = E + x.2 from HET.out)
          clear HET
          go_wp2
          go_roundw
          case rel => exact ⟨k + 1, hlt, by go_num, by rw [HE2.out], HB4.out⟩
          case measure => simp [intOf]; omega
        | false =>
          have HE2 := Lib.hid (show engA a c (s.l.take (k + 1)) = E from HET.out)
          clear HET
          go_wp2
          go_roundw
          case rel => exact ⟨k + 1, hlt, by go_num, by rw [HE2.out], HB4.out⟩
          case measure => simp [intOf]; omega
      · obtain rfl : k = s.l.length := by omega
        rw [List.take_length] at HEB ⊢
        obtain ⟨E, hE⟩ : ∃ E, engA a c s.l = E := ⟨_, rfl⟩
        rw [hE] at HEB HV1 ⊢
        clear hE
        have c4 : wA.cell? ⟨Q, 4, none⟩ = some (.int .i64 a.p) := cell_kept HBR.out (HQ.out.cell 4)
        have p0 : 0 ≤ a.p := HP.out.1
        have p1 : a.p ≤ 1000000 := HP.out.2
        have HHB := Lib.hid (half_bound p0 p1 HEB.out.1 (by have := HEB.out.2; omega))
        obtain ⟨M, hM⟩ : ∃ M, 2 * a.p * E = M := ⟨_, rfl⟩
        rw [hM] at HHB HV1
        have hm1 : 0 ≤ M := HHB.out.1
        have hm2 : M ≤ 960000000000 := HHB.out.2
        have hw1 : IntKind.i64.wrap (2 * a.p * E) = M := by rw [hM]; exact IntWalk.i64_in _ (by omega)
        clear hM
        have hdv : (M + 1000).tdiv 2000 = V := by rw [Int.tdiv_eq_ediv_of_nonneg (by omega)]; exact HV1.out
        have hv0 : 0 ≤ V := by have := HV1.out; omega
        have hv1 : V ≤ 960000001000 := by have := HV1.out; omega
        go_wp2
        go_ret
        exact ⟨rfl, below_step HB.out HBR.out⟩
  have d2 : (a.k == 2) = false := by simpa using k2
  have l1 := HS.out.f0
  have l2 := HS.out.fe
  have l3 := HS.out.et
  have l4 := HS.out.t1
  have l5 := HS.out.len
  by_cases k3 : a.k = 3
  · have d3 : (a.k == 3) = true := by simpa using k3
    have HV1 := Lib.hid (show startedA a c s.f s.t = V by rw [← HV.out]; unfold costA; rw [if_neg k1, if_neg k2, if_pos k3])
    have HT := Lib.hid (art_time HA.out (Or.inl k3))
    clear k1 k2 k3
    have HC := Lib.hid (started_any w0 W1 g c s b z a s.f s.t HX.out hd l1 (by omega) l4 l5 HP.out.1 HP.out.2 HT.out.1 HT.out.2.1 HT.out.2.2.1 HT.out.2.2.2)
    rw [HV1.out] at HC
    clear l1 l2 l3 l4 l5
    go_wp2_with fail
    refine HC.out.mono ?_
    rintro _ w2 ⟨rfl, hb⟩
    have HB2 := Lib.hid (below_step HB.out hb)
    clear hb HC c0 c1 c2 c3 c4 c5 c6 s0 s1 s2 s3
    go_wp2
    go_ret
    exact ⟨rfl, HB2.out⟩
  have d3 : (a.k == 3) = false := by simpa using k3
  by_cases k4 : a.k = 4
  · have d4 : (a.k == 4) = true := by simpa using k4
    have HV1 := Lib.hid (show startedA a c s.e s.t = V by rw [← HV.out]; unfold costA; rw [if_neg k1, if_neg k2, if_neg k3, if_pos k4])
    have HT := Lib.hid (art_time HA.out (Or.inr k4))
    clear k1 k2 k3 k4
    have HC := Lib.hid (started_any w0 W1 g c s b z a s.e s.t HX.out hd (by omega) l3 l4 (by omega) HP.out.1 HP.out.2 HT.out.1 HT.out.2.1 HT.out.2.2.1 HT.out.2.2.2)
    rw [HV1.out] at HC
    clear l1 l2 l3 l4 l5
    go_wp2_with fail
    refine HC.out.mono ?_
    rintro _ w2 ⟨rfl, hb⟩
    have HB2 := Lib.hid (below_step HB.out hb)
    clear hb HC c0 c1 c2 c3 c4 c5 c6 s0 s1 s2 s3
    go_wp2
    go_ret
    exact ⟨rfl, HB2.out⟩
  have d4 : (a.k == 4) = false := by simpa using k4
  obtain rfl : 0 = V := by rw [← HV.out]; unfold costA; rw [if_neg k1, if_neg k2, if_neg k3, if_neg k4]
  clear k1 k2 k3 k4
  go_wp2
  go_ret
  exact ⟨rfl, HB.out⟩
end Go.Proofs.YtkfmmiekajgdjaaGreat