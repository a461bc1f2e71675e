/- Package plan: Schedule. -/
import Derived.Test.YthgkfdhkmkbioaaPe21
import Derived.Laws.EntriesVeiled
namespace Go.Proofs.Ythgkfdhkmkbioaa
open Go.RowKit Go.Shelf
attribute [local go_sem] Oper.semAt_some

theorem jobN_any (k : Nat) (hk : k ≤ 1000) (w : World) : Calls Try.prog 17 #[.int .i64 (k : Nat)] w (fun e w' => e = .returned (.int .i64 ((2 + k : Nat) : Int)) ∧ w = w') := by
  have := jobNode_any (k : Int) (by omega) (by omega) w
  rwa [show (2 : Int) + (k : Int) = ((2 + k : Nat) : Int) by omega] at this
theorem slotN_any (k b : Nat) (o : Option Addr) (n cap : Nat) (hk : k ≤ 1000) (hn : n ≤ 1000) (w : World) (hb : w.cell? ⟨b, 0, none⟩ = some (.slice o n cap)) : Calls Try.prog 18 #[.int .i64 (k : Nat), .pointer (some ⟨b, 0, none⟩)] w (fun e w' => e = .returned (.int .i64 ((2 + n + k : Nat) : Int)) ∧ w = w') := by
  have := slotNode_any (k : Int) b o n cap (by omega) (by omega) hn w hb
  rwa [show (2 : Int) + (n : Int) + (k : Int) = ((2 + n + k : Nat) : Int) by omega] at this
/-- The frame at the third loop. -/
def schF (oj os : Option Addr) (n m cj cs P C F9 F10 G : Nat) (ND : Int) (c : Value) (u : Nat → Value) (ds : List Deferred) : Act := { tmps := #[.slice oj n cj, .slice os m cs, .pointer (some ⟨P, 0, none⟩), undef, .slice none 0 0, .pointer (some ⟨C, 0, none⟩), .int .i64 0, .int .i64 0, .int .i64 1, .pointer (some ⟨F9, 0, none⟩), .pointer (some ⟨F10, 0, none⟩), .pointer (some ⟨G, 0, none⟩), .int .i64 ND, u 13, u 14, u 15, u 16, u 17, u 18, u 19, u 20, u 21, u 22, u 23, u 24, u 25, u 26, u 27, u 28, u 29, u 30, u 31, u 32, u 33, u 34, u 35, u 36, u 37, u 38, u 39, u 40, u 41, u 42, u 43, u 44, u 45, u 46, u 47, u 48, u 49, u 50, u 51, u 52, u 53, u 54, u 55, u 56, u 57, u 58, u 59, u 60, u 61, u 62, u 63, u 64, u 65, u 66, u 67, u 68, u 69, u 70, u 71, u 72, u 73, u 74, u 75, u 76, u 77, u 78, u 79, u 80, u 81, u 82, u 83, u 84, .slice oj n cj, .int .i64 n, c, u 88, u 89, u 90, u 91, u 92, u 93, u 94, u 95, u 96, u 97, u 98, u 99, u 100, u 101, u 102, u 103, u 104, u 105, u 106, u 107, u 108, u 109, u 110, u 111, u 112, u 113, u 114, u 115, u 116, u 117, u 118, u 119, u 120, u 121, u 122, u 123, u 124, u 125, u 126, u 127, u 128, u 129, u 130, u 131, u 132, u 133, u 134, u 135, u 136, u 137, u 138, u 139, u 140, u 141, u 142, u 143, u 144, u 145, u 146, u 147, u 148, u 149, u 150, u 151, u 152, u 153, u 154, u 155, u 156, u 157, u 158, u 159, u 160, u 161, u 162, u 163, u 164, u 165, u 166, u 167, u 168, u 169, u 170, u 171, u 172], defers := ds }
/-- The frame at the fourth loop. -/
def plF (oj : Option Addr) (n cj C PB UB : Nat) (c : Value) (u : Nat → Value) (ds : List Deferred) : Act := { tmps := #[u 0, u 1, u 2, u 3, u 4, .pointer (some ⟨C, 0, none⟩), u 6, u 7, u 8, u 9, u 10, u 11, u 12, u 13, u 14, u 15, u 16, u 17, u 18, u 19, u 20, u 21, u 22, u 23, u 24, .pointer (some ⟨PB, 0, none⟩), .pointer (some ⟨UB, 0, none⟩), u 27, u 28, u 29, u 30, u 31, u 32, u 33, u 34, u 35, u 36, u 37, u 38, u 39, u 40, u 41, u 42, u 43, u 44, u 45, u 46, u 47, u 48, u 49, u 50, u 51, u 52, u 53, u 54, u 55, u 56, u 57, u 58, u 59, u 60, u 61, u 62, u 63, u 64, u 65, u 66, u 67, u 68, u 69, u 70, u 71, u 72, u 73, u 74, u 75, u 76, u 77, u 78, u 79, u 80, u 81, u 82, u 83, u 84, u 85, u 86, u 87, u 88, u 89, u 90, u 91, u 92, u 93, u 94, u 95, u 96, u 97, u 98, u 99, u 100, u 101, u 102, u 103, u 104, u 105, u 106, u 107, u 108, u 109, u 110, u 111, u 112, u 113, u 114, u 115, u 116, u 117, u 118, u 119, u 120, u 121, u 122, u 123, u 124, u 125, u 126, u 127, u 128, u 129, u 130, u 131, u 132, u 133, u 134, u 135, u 136, u 137, u 138, u 139, u 140, u 141, u 142, u 143, u 144, u 145, u 146, u 147, u 148, .slice oj n cj, .int .i64 n, c, u 152, u 153, u 154, u 155, u 156, u 157, u 158, u 159, u 160, u 161, u 162, u 163, u 164, u 165, u 166, u 167, u 168, u 169, u 170, u 171, u 172], defers := ds }
def Rel4 (w : World) (J : List Jb) (S fl : List Int) (oj : Option Addr) (cj PB UB AL OB FB EL qo : Nat) (a : Act) (W : World) : Prop := ∃ (k : Nat) (Ds : List Nat) (L : List Int) (uv : Value), k ≤ J.length ∧ a = plF oj J.length cj (w.heap.size + 1) PB UB (.int .i64 k) (fun i => a.tmps.getD i undef) (marksD Ds) ∧ PlM w (W) w.heap.size (w.heap.size + 1) PB UB AL OB FB oj J.length cj S.length fl L uv Ds ∧ TabL J S fl k 0 L ∧ UseV FB EL (qo + offJ J k) uv ∧ Ds.Nodup ∧ (∀ D ∈ Ds, w.heap.size ≤ D)
def S3 {F T : Nat} (w W : World) (x : Sp) (E0 : List Ed) (a b : Nat) (r : Int) (IB JB q k : Nat) (bx : Array Value) (Ds : List Nat) (pre : List (SlT F T)) : Prop :=
  (∃ v, ScM w W x (E0 ++ pre.map (fun t => (⟨a, b + t.1, r⟩ : Ed))) v Ds) ∧ Blk W IB 3 #[.int .i64 (k : Nat)] ∧ Blk W JB 27 bx ∧ Blk W q 27 bx
theorem S3.turn {F T : Nat} {w W W' : World} {x : Sp} {E0 : List Ed} {a b : Nat} {r : Int} {IB JB q k : Nat} {bx : Array Value} {Ds : List Nat} {pre : List (SlT F T)} {B : Nat} {row : Option Nat} (h : S3 w W x E0 a b r IB JB q k bx Ds pre) (hB : ∀ D ∈ Ds, D < B) (hw : w.heap.size ≤ B) (hg : W.grownBy W' row) (hr : ∀ r, row = some r → B ≤ r ∧ ∃ o : Obj, W.heap[r]? = some o ∧ o.isCells = false) : S3 w W' x E0 a b r IB JB q k bx Ds pre := by
  obtain ⟨⟨v, h1⟩, h2, h3, h4⟩ := h
  exact ⟨⟨v, h1.turn hB hw hg hr⟩, blk_turn h2 hg (fun r e => (hr r e).2), blk_turn h3 hg (fun r e => (hr r e).2), blk_turn h4 hg (fun r e => (hr r e).2)⟩
theorem gR_range {n i : Nat} {j : Jb} {F T : Nat} {e r kk : Int} (hj : j = ⟨(F : Int), (T : Int), e, r, kk⟩) : gR n i j = (List.range' F (T - F)).map (fun t => (⟨2 + i, 2 + n + t, r⟩ : Ed)) := by
  subst hj
  unfold gR lenJ
  rw [List.range'_eq_map_range, List.map_map]
  dsimp only
  rw [Int.toNat_natCast, Int.toNat_natCast]
  rfl
theorem off_le24 {J : List Jb} {S : List Int} (hv : ValidP J S) : ∀ k, k ≤ J.length → offJ J k ≤ 24 * k
  | 0, _ => Nat.le_refl _
  | k + 1, hk => by
    have := hv.j _ (getJ_mem (i := k) (by omega))
    have a0 := this.f0
    have a2 := this.tm
    have a3 := hv.s24
    have ih := off_le24 hv k (by omega)
    show offJ J k + lenJ (getJ J k) ≤ _
    unfold lenJ
    omega
theorem gC_off_le {J : List Jb} {S : List Int} (hv : ValidP J S) {k : Nat} (hk : k ≤ J.length) : (gC J J.length k).length ≤ 288 := by
  rw [gC_len]
  have h1 := off_le24 hv k hk
  have h2 := hv.j12
  omega
set_option maxRecDepth 100000 in
set_option maxHeartbeats 16000000 in
theorem sched_any (w : World) (J : List Jb) (S : List Int) (oj os : Option Addr) (cj cs : Nat) (hj : JobsM w oj J) (hs : Ints w os S) (hv : ValidP J S) :
    Calls Try.prog 8 #[.slice oj J.length cj, .slice os S.length cs] w (fun e w' => SchedOut w w' J S e) := by
  have HJ := Lib.hid hj
  have HS := Lib.hid hs
  have HV := Lib.hid hv
  have HGO := Lib.hid (graph_ok hv)
  have hn12 := hv.j12
  have hm24 := hv.s24
  have HVB := Lib.hid (validP_iff.2 hv)
  have HND := Lib.hid (need_le hv)
  clear hj hs hv
  obtain ⟨n, hn⟩ : ∃ n : Nat, 6 ≤ n := ⟨8, by omega⟩
  refine (callsIn_wide (n := n)).1 ?_
  refine callsIn_of_wp_marks Try.func8 rfl trivial ?_ rfl
  simp only [Try.ntmps8, List.size_toArray, List.length_cons, List.length_nil, Nat.reduceAdd, Nat.reduceSub, Array.replicate_succ, Array.replicate_zero, List.push_toArray, List.append_toArray, List.nil_append, List.cons_append]
  refine wpIn_wide.2 ?_
  go_upto_region 1 with (fail)
  obtain ⟨W1, hW1⟩ : ∃ W, W = (w.alloc (.cells #[.slice oj J.length cj] 22)).alloc (.cells #[.slice none 0 0, .slice none 0 0] 30) := ⟨_, rfl⟩
  have HB1 := Lib.hid (show Below w.heap.size w W1 by rw [hW1]; exact below_alloc (below_alloc (Below.refl _ _) _) _)
  have HP1 := Lib.hid (show Blk W1 w.heap.size 22 #[.slice oj J.length cj] by rw [hW1]; exact (Blk.new ..).alloc _)
  have HC1 := Lib.hid (show Blk W1 (w.heap.size + 1) 30 #[.slice none 0 0, .slice none 0 0] by
    rw [hW1]
    have := Blk.new (w.alloc (.cells #[.slice oj J.length cj] 22)) 30 #[.slice none 0 0, .slice none 0 0]
    rwa [World.size_alloc] at this)
  rw [← hW1]
  clear hW1
  have c0 := HP1.out.cell 0
  have HVA := Lib.hid (pvalid_any J S oj os cj cs W1 (HJ.out.later HB1.out) (fun i hi => by
    obtain ⟨b, off, h1, h2⟩ := HS.out i hi
    exact ⟨b, off, h1, cell_kept HB1.out h2⟩))
  rw [HVB.out] at HVA
  go_wp2_with fail
  refine HVA.out.mono ?_
  rintro _ W2 ⟨rfl, hb2⟩
  have HB2 := Lib.hid (below_step HB1.out hb2)
  have HP2 := Lib.hid (HP1.out.later hb2)
  have HC2 := Lib.hid (HC1.out.later hb2)
  have HS2 := Lib.hid hb2.size
  clear hb2 HVA HB1 c0
  go_upto_region 6 with (fail)
  obtain ⟨W3, hW3⟩ : ∃ W, W = (W2.alloc (.cells #[.func (.func 17) #[] #[]] 50)).alloc (.cells #[.func (.func 18) #[] #[.pointer (some ⟨w.heap.size, 0, none⟩)]] 50) := ⟨_, rfl⟩
  have hb3 : Below W2.heap.size W2 W3 := by rw [hW3]; exact below_alloc (below_alloc (Below.refl _ _) _) _
  have H9 := Lib.hid (show Blk W3 W2.heap.size 50 #[.func (.func 17) #[] #[]] by rw [hW3]; exact (Blk.new ..).alloc _)
  have H10 := Lib.hid (show Blk W3 (W2.heap.size + 1) 50 #[.func (.func 18) #[] #[.pointer (some ⟨w.heap.size, 0, none⟩)]] by
    rw [hW3]
    have := Blk.new (W2.alloc (.cells #[.func (.func 17) #[] #[]] 50)) 50 #[.func (.func 18) #[] #[.pointer (some ⟨w.heap.size, 0, none⟩)]]
    rwa [World.size_alloc] at this)
  have HB3 := Lib.hid (below_step HB2.out hb3)
  have HP3 := Lib.hid (HP2.out.later hb3)
  have HC3 := Lib.hid (HC2.out.later hb3)
  have HSZ3 := Lib.hid hb3.size
  rw [← hW3]
  clear hW3 hb3
  have f0 : W3.cell? ⟨W2.heap.size + 1, 0, none⟩ = some (.func (.func 18) #[] #[.pointer (some ⟨w.heap.size, 0, none⟩)]) := H10.out.cell 0
  obtain ⟨N, hN⟩ : ∃ N, 2 + J.length + S.length = N := ⟨_, rfl⟩
  have HNN := Lib.hid hN
  have HSN := Lib.hid (slotN_any S.length w.heap.size oj J.length cj (by omega) (by omega) W3 (HP3.out.cell 0))
  rw [hN] at HSN
  clear hN
  go_wp2_with fail
  refine HSN.out.mono ?_
  rintro _ _ ⟨rfl, rfl⟩
  clear f0
  go_upto_region 7 with (fail)
  obtain ⟨W4, hW4⟩ : ∃ W, W = W3.alloc (.cells #[.int .i64 (N : Nat), .slice none 0 0] 53) := ⟨_, rfl⟩
  have hb4 : Below W3.heap.size W3 W4 := by rw [hW4]; exact below_alloc (Below.refl _ _) _
  have hs3 := HSZ3.out
  have hs2 := HS2.out
  have hs1 := HB2.out.size
  have HM0 : Hid (ScM w W4 ⟨w.heap.size, w.heap.size + 1, W2.heap.size, W2.heap.size + 1, W3.heap.size, J.length, cj, N, oj⟩ (gA J 0) (.slice none 0 0) []) := Lib.hid ⟨below_step HB3.out hb4, HP3.out.later hb4, HC3.out.later hb4, H9.out.later hb4, H10.out.later hb4, by rw [hW4]; exact Blk.new .., World.ownsRow_nil .., ⟨Nat.le_refl _, Nat.le_succ _, hs1, Nat.le_succ_of_le hs1, Nat.le_trans hs1 hs3⟩, fun _ h => (by cases h)⟩
  rw [← hW4]
  clear hW4 hb4 hs3 hs2 hs1 HB3 HP3 HC3 H9 H10 HSZ3 HSN HB2 HP2 HC2 HS2
  obtain ⟨F9, hF9⟩ : ∃ F, W2.heap.size = F := ⟨_, rfl⟩
  obtain ⟨F10, hF10⟩ : ∃ F, W2.heap.size + 1 = F := ⟨_, rfl⟩
  obtain ⟨G, hG⟩ : ∃ F, W3.heap.size = F := ⟨_, rfl⟩
  rw [hF10, hF9, hG] at HM0 ⊢
  clear hF9 hF10 hG
  obtain ⟨x, hx⟩ : ∃ x : Sp, (⟨w.heap.size, w.heap.size + 1, F9, F10, G, J.length, cj, N, oj⟩ : Sp) = x := ⟨_, rfl⟩
  have HXX := Lib.hid hx.symm
  rw [hx] at HM0
  clear hx
  have HCL := Lib.hid (show ∀ W E v Ds, ScM w W x E v Ds → W.cell? ⟨w.heap.size, 0, none⟩ = some (.slice oj J.length cj) ∧ W.cell? ⟨F9, 0, none⟩ = some (.func (.func 17) #[] #[]) ∧ W.cell? ⟨F10, 0, none⟩ = some (.func (.func 18) #[] #[.pointer (some ⟨w.heap.size, 0, none⟩)]) ∧ W.cell? ⟨G, 1, none⟩ = some v ∧ Blk W G 53 #[.int .i64 (N : Nat), v] from fun W E v Ds h => by
    rw [HXX.out] at h
    exact ⟨h.p.cell 0, h.f9.cell 0, h.f10.cell 0, h.g.cell 1, h.g⟩)
  have H9B := Lib.hid (show ∀ W E v Ds, ScM w W x E v Ds → Blk W F9 50 #[.func (.func 17) #[] #[]] ∧ Blk W F10 50 #[.func (.func 18) #[] #[.pointer (some ⟨w.heap.size, 0, none⟩)]] from fun W E v Ds h => by
    rw [HXX.out] at h
    exact ⟨h.f9, h.f10⟩)
  have HGF : Hid (x.G = G) := Lib.hid (by rw [HXX.out])
  have c1 := (HCL.out _ _ _ _ HM0.out).1
  go_wp2_with fail
  clear c1
  go_loopw [12, 43] (fun nd i wr => ∃ (k : Nat) (v : Value), k ≤ J.length ∧ i = .int .i64 k ∧ nd = .int .i64 (sumN k (fun i => (getJ J i).e)) ∧ ScM w wr x (gA J k) v []) (fun _ i _ => J.length - (intOf i).toNat)
  case atStart => exact ⟨0, _, Nat.zero_le _, rfl, rfl, HM0.out⟩
  case round =>
    obtain ⟨k, v, hk, rfl, rfl, hm⟩ := hrel
    obtain ⟨wA, rfl⟩ : ∃ wA : World, wA = wr := ⟨_, rfl⟩
    clear HM0
    have HM := Lib.hid hm
    clear hm
    by_cases hlt : k < J.length
    · obtain ⟨b, off, rfl, c0, c1, c2, c3, c4⟩ := (HJ.out.later HM.out.bel) k hlt
      have hnd0 := HND.out k hk
      have hej := HV.out.j _ (getJ_mem hlt)
      have HSU := Lib.hid (show sumN (k + 1) (fun i => (getJ J i).e) = sumN k (fun i => (getJ J i).e) + (getJ J k).e from rfl)
      have HGS := Lib.hid (gA_succ J k)
      have hgl : (gA J k).length ≤ 1000 := by rw [gA_len]; omega
      obtain ⟨ND, hND⟩ : ∃ x, sumN k (fun i => (getJ J i).e) = x := ⟨_, rfl⟩
      rw [hND] at HSU hnd0 ⊢
      obtain ⟨j, hj⟩ : ∃ j, getJ J k = j := ⟨_, rfl⟩
      rw [hj] at c0 c1 c2 c3 c4 hej HSU HGS
      have hje0 := hej.e0
      have hje1 := hej.e1
      clear hj hND hej
      have y1 : (0 : Int) ≤ (k : Int) := by omega
      have y2 : (k : Int) < (J.length : Int) := by omega
      go_upto_region 11 with (fail)
      obtain ⟨W4, hW4⟩ : ∃ W, W = wA.alloc (.cells (jobC j) 27) := ⟨_, rfl⟩
      have hb4 : Below wA.heap.size wA W4 := by rw [hW4]; exact below_alloc (Below.refl _ _) _
      have HP4 := Lib.hid (show Blk W4 wA.heap.size 27 (jobC j) by rw [hW4]; exact Blk.new ..)
      have HM4 := Lib.hid (HM.out.later hb4)
      rw [← hW4]
      clear hW4 hb4 c0 c1 c2 c3 c4 HM
      obtain ⟨JB, hJB⟩ : ∃ x, wA.heap.size = x := ⟨_, rfl⟩
      rw [hJB] at HP4 ⊢
      clear hJB
      have HJN := Lib.hid (jobN_any k (by omega))
      obtain ⟨M, hM⟩ : ∃ M, 2 + k = M := ⟨_, rfl⟩
      rw [hM] at HJN HGS
      clear hM
      obtain ⟨oe, ce, hv⟩ := HM4.out.shape
      obtain ⟨ne, hne⟩ : ∃ n, (gA J k).length = n := ⟨_, rfl⟩
      rw [hne] at hv
      subst hv
      have HNE := Lib.hid hne
      clear hne
      refine wp_region_mask [5, 8, 9, 10, 12] [true, true, true, true, true, false, true, true, false, false, false, true, false] (fun w'' => w''.cell? ⟨G, 1, none⟩ = some (.slice oe ne ce) ∧ w''.cell? ⟨F9, 0, none⟩ = some (.func (.func 17) #[] #[]) ∧ w''.cell? ⟨JB, 2, none⟩ = some (.int .i64 j.e)) mixed (by kernel_rfl) ?_
      intro KR hR
      have HR := Lib.hid hR
      clear hR
      simp only [marked]
      apply wpM_val rfl
      · (intro w' hw'; go_simp; with_reducible rfl)
      simp only [Act.put, List.setIfInBounds_toArray, List.set_cons_zero, List.set_cons_succ]
      apply wpM_val rfl
      · (intro w' hw'; obtain ⟨c0, c1, c2⟩ := hw'; go_simp; with_reducible rfl)
      simp only [Act.put, List.setIfInBounds_toArray, List.set_cons_zero, List.set_cons_succ]
      apply wpM_val rfl
      · (intro w' hw'; go_simp; with_reducible rfl)
      simp only [Act.put, List.setIfInBounds_toArray, List.set_cons_zero, List.set_cons_succ]
      apply wpM_val rfl
      · (intro w' hw'; obtain ⟨c0, c1, c2⟩ := hw'; go_simp; with_reducible rfl)
      simp only [Act.put, List.setIfInBounds_toArray, List.set_cons_zero, List.set_cons_succ]
      apply wpM_val rfl
      · (intro w' hw'; go_simp; with_reducible rfl)
      simp only [Act.put, List.setIfInBounds_toArray, List.set_cons_zero, List.set_cons_succ]
      apply wpM_val rfl
      · (intro w' hw'; go_simp; with_reducible rfl)
      simp only [Act.put, List.setIfInBounds_toArray, List.set_cons_zero, List.set_cons_succ]
      apply wpM_val rfl
      · (intro w' hw'; obtain ⟨c0, c1, c2⟩ := hw'; go_simp; with_reducible rfl)
      simp only [Act.put, List.setIfInBounds_toArray, List.set_cons_zero, List.set_cons_succ]
      apply wpM_val rfl
      · (intro w' hw'; go_simp; with_reducible rfl)
      simp only [Act.put, List.setIfInBounds_toArray, List.set_cons_zero, List.set_cons_succ]
      refine wpM_nil (HR.out _ ?_)
      clear HR
      obtain ⟨W5, hW5⟩ : ∃ W, W = W4.drew := ⟨_, rfl⟩
      have hb5 : Below W4.heap.size W4 W5 := by rw [hW5]; exact (Below.refl _ _).drew
      have HM5 := Lib.hid (HM4.out.later hb5)
      have HP5 := Lib.hid (HP4.out.later hb5)
      have HJ5 := Lib.hid (show W5.cell? ⟨G, 1, none⟩ = some (.slice oe ne ce) ∧ W5.cell? ⟨F9, 0, none⟩ = some (.func (.func 17) #[] #[]) ∧ W5.cell? ⟨JB, 2, none⟩ = some (.int .i64 j.e) from ⟨(HCL.out _ _ _ _ HM5.out).2.2.2.1, (HCL.out _ _ _ _ HM5.out).2.1, HP5.out.cell 2⟩)
      have HBD5 := Lib.hid hb5
      rw [← hW5]
      clear hW5 hb5
      refine wpC_call (f := 17) (args := #[.int .i64 (k : Nat)]) (w' := W5) rfl rfl HJ5.out (by go_simp) ?_
      refine (HJN.out W5).mono ?_
      rintro _ _ ⟨rfl, rfl⟩
      refine ⟨_, rfl, ?_⟩
      simp only [Act.put, List.setIfInBounds_toArray]
      refine wpC_run rfl rfl HJ5.out (v := .agg #[.int .i64 ((0 : Nat) : Int), .int .i64 (M : Nat), .int .i64 j.e]) (w' := W5) (by go_simp) ?_
      simp only [Act.put]
      refine wpC_run rfl rfl HJ5.out (v := .slice (some ⟨W5.heap.size, 0, none⟩) 1 1) (w' := W5.alloc (.cells #[.int .i64 ((0 : Nat) : Int), .int .i64 (M : Nat), .int .i64 j.e] 55)) (by go_simp) ?_
      simp only [Act.put]
      have hba : Below W5.heap.size W5 (W5.alloc (.cells #[.int .i64 ((0 : Nat) : Int), .int .i64 (M : Nat), .int .i64 j.e] 55)) := below_alloc (Below.refl _ _) _
      have HM6 := Lib.hid (HM5.out.later hba)
      have HP6 := Lib.hid (HP5.out.later hba)
      obtain ⟨o2, c2, w', hr, hkeep, hbel, hks, hpush⟩ := HM5.out.push ⟨0, M, j.e⟩ hgl 51
      rw [HNE.out] at hr hbel hks hpush
      refine wpC_append _ _ rfl rfl rfl (show (W5.alloc (.cells #[.int .i64 ((0 : Nat) : Int), .int .i64 (M : Nat), .int .i64 j.e] 55)).cell? ⟨G, 1, none⟩ = some (.slice oe ne ce) ∧ (W5.alloc (.cells #[.int .i64 ((0 : Nat) : Int), .int .i64 (M : Nat), .int .i64 j.e] 55)).cell? ⟨F9, 0, none⟩ = some (.func (.func 17) #[] #[]) ∧ (W5.alloc (.cells #[.int .i64 ((0 : Nat) : Int), .int .i64 (M : Nat), .int .i64 j.e] 55)).cell? ⟨JB, 2, none⟩ = some (.int .i64 j.e) from ⟨(HCL.out _ _ _ _ HM6.out).2.2.2.1, (HCL.out _ _ _ _ HM6.out).2.1, HP6.out.cell 2⟩) hr ?_
      simp only [Act.put]
      clear hr HM6 HP6 hba
      have HGk := Lib.hid (hkeep _ _ _ (HCL.out _ _ _ _ HM5.out).2.2.2.2 (by decide))
      have HPk := Lib.hid (hkeep _ _ _ HP5.out (by decide))
      have HKk := Lib.hid (show ∀ B t cs, Blk W5 B t cs → t ≠ 55 → Blk w' B t cs from hkeep)
      have HBW := Lib.hid hbel
      have HKS := Lib.hid hks
      have HPU := Lib.hid hpush
      clear hkeep hbel hks hpush
      have f8 := HGk.out.frozen 1
      have HJ8 := Lib.hid (show w'.cell? ⟨G, 1, none⟩ = some (.slice oe ne ce) ∧ w'.cell? ⟨F9, 0, none⟩ = some (.func (.func 17) #[] #[]) ∧ w'.cell? ⟨JB, 2, none⟩ = some (.int .i64 j.e) from ⟨HGk.out.cell 1, (HKk.out _ _ _ (H9B.out _ _ _ _ HM5.out).1 (by decide)).cell 0, HPk.out.cell 2⟩)
      have c8 := HJ8.out.1
      refine wpC_skipN rfl rfl rfl HJ8.out (w' := w'.setCell ⟨G, 1, none⟩ (.slice o2 (ne + 1) c2)) (by go_simp) ?_
      refine wpC_nil ?_
      rw [HGF.out] at HPU HBW HKS
      obtain ⟨Wa, hW8⟩ : ∃ W, W = w'.setCell ⟨G, 1, none⟩ (.slice o2 (ne + 1) c2) := ⟨_, rfl⟩
      have HPa := Lib.hid (HPk.out.other (p := ⟨G, 1, none⟩) (Blk.ne HPk.out HGk.out (by decide)) (.slice o2 (ne + 1) c2))
      have HMa := HPU
      rw [← hW8] at HPa HMa HBW HKS ⊢
      clear hW8 HPU HPk HGk HKk f8 c8 HJ8 HJ5 HM5 HP5 HM4 HP4 HBW HKS HBD5
      have q2 := HPa.out.cell 2
      have e5 : IntKind.i64.wrap (ND + j.e) = ND + j.e := IntWalk.i64_in _ (by omega)
      have HSM := Lib.hid (sum2_any Wa.heap.size ND j.e (Wa.alloc (.cells #[.int .i64 ND, .int .i64 j.e] 3)) (Blk.new ..) (by omega) (by omega))
      have HMs := Lib.hid (HMa.out.later (below_alloc (Below.refl _ _) (.cells #[.int .i64 ND, .int .i64 j.e] 3)))
      go_wp2_with fail
      refine HSM.out.mono ?_
      rintro _ W9 ⟨rfl, hb9⟩
      have HM9 := Lib.hid (HMs.out.later hb9)
      clear hb9 HSM HMs q2
      go_wp2
      go_round
      case rel => exact ⟨k + 1, _, hlt, by go_num, by rw [HSU.out], by have := HM9.out; rw [← HGS.out] at this; exact this⟩
      case measure => exact meas_lt hlt
    · obtain rfl : k = J.length := by omega
      clear hlt hk
      have hnd0 := HND.out J.length (Nat.le_refl _)
      obtain ⟨ND, hND⟩ : ∃ x, sumN J.length (fun i => (getJ J i).e) = x := ⟨_, rfl⟩
      have HNDX := Lib.hid hND
      rw [hND] at hnd0 ⊢
      clear hND
      have HM0 : Hid (ScM w wA x (gA J J.length ++ gB J.length S 0) v []) := Lib.hid (by rw [show gB J.length S 0 = [] from rfl, List.append_nil]; exact HM.out)
      clear HM
      go_wp2_with fail
      go_loopw [68] (fun i wr => ∃ (k : Nat) (v : Value), k ≤ S.length ∧ i = .int .i64 k ∧ ScM w wr x (gA J J.length ++ gB J.length S k) v []) (fun i _ => S.length - (intOf i).toNat)
      case atStart => exact ⟨0, _, Nat.zero_le _, rfl, HM0.out⟩
      case round =>
        obtain ⟨k, v, hk, rfl, hm⟩ := hrel
        obtain ⟨wA, rfl⟩ : ∃ wA : World, wA = wr := ⟨_, rfl⟩
        clear HM0
        have HM := Lib.hid hm
        clear hm
        by_cases hlt : k < S.length
        · obtain ⟨b, off, rfl, s0⟩ := HS.out k hlt
          replace s0 := cell_kept HM.out.bel s0
          have HGS := Lib.hid (show gA J J.length ++ gB J.length S k ++ [(⟨2 + J.length + k, 1, S.getD k 0⟩ : Ed)] = gA J J.length ++ gB J.length S (k + 1) by rw [gB_succ, List.append_assoc])
          have hgl : (gA J J.length ++ gB J.length S k).length ≤ 1000 := by rw [List.length_append, gA_len, gB_len]; omega
          obtain ⟨s, hs⟩ : ∃ s, S.getD k 0 = s := ⟨_, rfl⟩
          rw [hs] at s0 HGS
          clear hs
          have HPP := Lib.hid (show Blk wA w.heap.size 22 #[.slice oj J.length cj] by have := HM.out.p; rw [HXX.out] at this; exact this)
          have HSL := Lib.hid (fun (W : World) (hc : W.cell? ⟨w.heap.size, 0, none⟩ = some (.slice oj J.length cj)) => slotN_any k w.heap.size oj J.length cj (by omega) (by omega) W hc)
          obtain ⟨M, hM⟩ : ∃ M, 2 + J.length + k = M := ⟨_, rfl⟩
          rw [hM] at HSL HGS
          clear hM
          have y1 : (0 : Int) ≤ (k : Int) := by omega
          have y2 : (k : Int) < (S.length : Int) := by omega
          go_upto_region 17 with (fail)
          obtain ⟨oe, ce, hv⟩ := HM.out.shape
          obtain ⟨ne, hne⟩ : ∃ n, (gA J J.length ++ gB J.length S k).length = n := ⟨_, rfl⟩
          rw [hne] at hv
          subst hv
          have HNE := Lib.hid hne
          clear hne
          refine wp_region_mask [4, 7, 8, 9, 11] [true, true, true, true, false, true, true, false, false, false, true, false] (fun w'' => w''.cell? ⟨G, 1, none⟩ = some (.slice oe ne ce) ∧ w''.cell? ⟨F10, 0, none⟩ = some (.func (.func 18) #[] #[.pointer (some ⟨w.heap.size, 0, none⟩)])) mixed (by kernel_rfl) ?_
          intro KR hR
          have HR := Lib.hid hR
          clear hR
          simp only [marked]
          apply wpM_val rfl
          · (intro w' hw'; go_simp; with_reducible rfl)
          simp only [Act.put, List.setIfInBounds_toArray, List.set_cons_zero, List.set_cons_succ]
          apply wpM_val rfl
          · (intro w' hw'; obtain ⟨c0, c1⟩ := hw'; go_simp; with_reducible rfl)
          simp only [Act.put, List.setIfInBounds_toArray, List.set_cons_zero, List.set_cons_succ]
          apply wpM_val rfl
          · (intro w' hw'; obtain ⟨c0, c1⟩ := hw'; go_simp; with_reducible rfl)
          simp only [Act.put, List.setIfInBounds_toArray, List.set_cons_zero, List.set_cons_succ]
          apply wpM_val rfl
          · (intro w' hw'; go_simp; with_reducible rfl)
          simp only [Act.put, List.setIfInBounds_toArray, List.set_cons_zero, List.set_cons_succ]
          apply wpM_val rfl
          · (intro w' hw'; go_simp; with_reducible rfl)
          simp only [Act.put, List.setIfInBounds_toArray, List.set_cons_zero, List.set_cons_succ]
          apply wpM_val rfl
          · (intro w' hw'; go_simp; with_reducible rfl)
          simp only [Act.put, List.setIfInBounds_toArray, List.set_cons_zero, List.set_cons_succ]
          apply wpM_val rfl
          · (intro w' hw'; go_simp; with_reducible rfl)
          simp only [Act.put, List.setIfInBounds_toArray, List.set_cons_zero, List.set_cons_succ]
          refine wpM_nil (HR.out _ ?_)
          clear HR
          obtain ⟨W5, hW5⟩ : ∃ W, W = wA.drew := ⟨_, rfl⟩
          have hb5 : Below wA.heap.size wA W5 := by rw [hW5]; exact (Below.refl _ _).drew
          have HM5 := Lib.hid (HM.out.later hb5)
          have HP5 := Lib.hid (HPP.out.later hb5)
          have HJ5 := Lib.hid (show W5.cell? ⟨G, 1, none⟩ = some (.slice oe ne ce) ∧ W5.cell? ⟨F10, 0, none⟩ = some (.func (.func 18) #[] #[.pointer (some ⟨w.heap.size, 0, none⟩)]) from ⟨(HCL.out _ _ _ _ HM5.out).2.2.2.1, (HCL.out _ _ _ _ HM5.out).2.2.1⟩)
          have HBD5 := Lib.hid hb5
          rw [← hW5]
          clear hW5 hb5
          refine wpC_call (f := 18) (args := #[.int .i64 (k : Nat), .pointer (some ⟨w.heap.size, 0, none⟩)]) (w' := W5) rfl rfl HJ5.out (by go_simp) ?_
          refine (HSL.out W5 (HCL.out _ _ _ _ HM5.out).1).mono ?_
          rintro _ _ ⟨rfl, rfl⟩
          refine ⟨_, rfl, ?_⟩
          simp only [Act.put, List.setIfInBounds_toArray]
          refine wpC_run rfl rfl HJ5.out (v := .agg #[.int .i64 (M : Nat), .int .i64 ((1 : Nat) : Int), .int .i64 s]) (w' := W5) (by go_simp) ?_
          simp only [Act.put]
          refine wpC_run rfl rfl HJ5.out (v := .slice (some ⟨W5.heap.size, 0, none⟩) 1 1) (w' := W5.alloc (.cells #[.int .i64 (M : Nat), .int .i64 ((1 : Nat) : Int), .int .i64 s] 55)) (by go_simp) ?_
          simp only [Act.put]
          have hba : Below W5.heap.size W5 (W5.alloc (.cells #[.int .i64 (M : Nat), .int .i64 ((1 : Nat) : Int), .int .i64 s] 55)) := below_alloc (Below.refl _ _) _
          have HM6 := Lib.hid (HM5.out.later hba)
          have HP6 := Lib.hid (HP5.out.later hba)
          obtain ⟨o2, c2, w', hr, hkeep, hbel, hks, hpush⟩ := HM5.out.push ⟨M, 1, s⟩ hgl 51
          rw [HNE.out] at hr hbel hks hpush
          refine wpC_append _ _ rfl rfl rfl (show (W5.alloc (.cells #[.int .i64 (M : Nat), .int .i64 ((1 : Nat) : Int), .int .i64 s] 55)).cell? ⟨G, 1, none⟩ = some (.slice oe ne ce) ∧ (W5.alloc (.cells #[.int .i64 (M : Nat), .int .i64 ((1 : Nat) : Int), .int .i64 s] 55)).cell? ⟨F10, 0, none⟩ = some (.func (.func 18) #[] #[.pointer (some ⟨w.heap.size, 0, none⟩)]) from ⟨(HCL.out _ _ _ _ HM6.out).2.2.2.1, (HCL.out _ _ _ _ HM6.out).2.2.1⟩) hr ?_
          simp only [Act.put]
          clear hr HM6 HP6 hba
          have HGk := Lib.hid (hkeep _ _ _ (HCL.out _ _ _ _ HM5.out).2.2.2.2 (by decide))
          have HPk := Lib.hid (hkeep _ _ _ HP5.out (by decide))
          have HKk := Lib.hid (show ∀ B t cs, Blk W5 B t cs → t ≠ 55 → Blk w' B t cs from hkeep)
          have HBW := Lib.hid hbel
          have HKS := Lib.hid hks
          have HPU := Lib.hid hpush
          clear hkeep hbel hks hpush
          have f8 := HGk.out.frozen 1
          have HJ8 := Lib.hid (show w'.cell? ⟨G, 1, none⟩ = some (.slice oe ne ce) ∧ w'.cell? ⟨F10, 0, none⟩ = some (.func (.func 18) #[] #[.pointer (some ⟨w.heap.size, 0, none⟩)]) from ⟨HGk.out.cell 1, (HKk.out _ _ _ (H9B.out _ _ _ _ HM5.out).2 (by decide)).cell 0⟩)
          have c8 := HJ8.out.1
          refine wpC_skipN rfl rfl rfl HJ8.out (w' := w'.setCell ⟨G, 1, none⟩ (.slice o2 (ne + 1) c2)) (by go_simp) ?_
          refine wpC_nil ?_
          rw [HGF.out] at HPU HBW HKS
          obtain ⟨Wa, hW8⟩ : ∃ W, W = w'.setCell ⟨G, 1, none⟩ (.slice o2 (ne + 1) c2) := ⟨_, rfl⟩
          have HPa := Lib.hid (HPk.out.other (p := ⟨G, 1, none⟩) (Blk.ne HPk.out HGk.out (by decide)) (.slice o2 (ne + 1) c2))
          have HMa := HPU
          rw [← hW8] at HPa HMa HBW HKS ⊢
          clear hW8 HPU HPk HGk HKk f8 c8 HJ8 HJ5 HM5 HP5 HM HPP HBW HKS HBD5
          go_wp2
          go_round
          case rel => exact ⟨k + 1, _, hlt, by go_num, by have := HMa.out; rw [HGS.out] at this; exact this⟩
          case measure => exact meas_lt hlt
        · obtain rfl : k = S.length := by omega
          clear hlt hk
          have c1 := (HCL.out _ _ _ _ HM.out).1
          go_upto_region 19 with (fail)
          go_cut [12, 85, 86, 87] from 13 to 172 (fun nd a b c wx => nd = .int .i64 ND ∧ a = .slice oj J.length cj ∧ b = .int .i64 J.length ∧ c = .int .i64 0 ∧ wx = wA)
          case first =>
            go_wp2_with fail
            go_meet
            exact ⟨rfl, rfl, rfl, rfl, rfl⟩
          case rest =>
            obtain ⟨rfl, rfl, rfl, rfl, rfl⟩ := hcut
            go_wp2_with fail
            rename_i K5 hK5
            have HEND : ∀ (a : Act) (Ds : List Nat) (W : World) (v : Value), a = schF oj os J.length S.length cj cs w.heap.size (w.heap.size + 1) F9 F10 G ND (.int .i64 J.length) (fun i => a.tmps.getD i undef) (marksD Ds) → ScM w W x (gA J J.length ++ gB J.length S S.length ++ gC J J.length J.length) v Ds → Ds.Nodup → (∀ D ∈ Ds, w.heap.size ≤ D) → K5 a W := by
              intro a Ds W v ha hm hnd hlo
              obtain ⟨E, hE⟩ : ∃ E, gA J J.length ++ gB J.length S S.length ++ gC J J.length J.length = E := ⟨_, rfl⟩
              have HE : Hid (graph J S = E) := Lib.hid hE
              rw [hE] at hm
              have HM := Lib.hid hm
              have HDN := Lib.hid hnd
              have HDL := Lib.hid hlo
              obtain ⟨u, ha⟩ : ∃ u, a = schF oj os J.length S.length cj cs w.heap.size (w.heap.size + 1) F9 F10 G ND (.int .i64 J.length) (u) (marksD Ds) := ⟨_, ha⟩
              subst ha
              obtain ⟨oe, ce, rfl⟩ := hm.shape
              clear hm hnd hlo hE
              refine hK5 _ _ ?_
              unfold schF
              obtain ⟨g1, g2⟩ : W.cell? ⟨G, 0, none⟩ = some (.int .i64 (N : Nat)) ∧ W.cell? ⟨G, 1, none⟩ = some (.slice oe E.length ce) := ⟨(HCL.out _ _ _ _ HM.out).2.2.2.2.cell 0, (HCL.out _ _ _ _ HM.out).2.2.2.1⟩
              have HMO : Hid (Calls Try.prog 21 #[.agg #[.int .i64 (N : Nat), .slice oe E.length ce], .int .i64 0, .int .i64 1] W (fun e w' => MostOut W w' N E 0 1 e)) := Lib.hid (by
                have h1 := HGO.out
                rw [HNN.out, HE.out] at h1
                have h2 := HNN.out
                exact Most_any W N 0 1 E oe ce (HM.out.eds rfl) h1.1 h1.2.1 h1.2.2.1 h1.2.2.2 (by omega) (by omega) (by decide))
              go_wp2_with fail
              refine HMO.out.mono ?_
              rintro _ W5 hmo
              obtain ⟨hb5, a, FB, SB, fl, seen, rfl, hFB, hSB, hfb, hsb, hflow, hlen, hs0, hs1, hcap, ha0, ha1⟩ := hmo
              have HM5 := Lib.hid (HM.out.later hb5)
              have HFB := Lib.hid hfb
              have HSB := Lib.hid hsb
              have HFL := Lib.hid hflow
              have HLEN := Lib.hid hlen
              have HS01 := Lib.hid (show seen.getD 0 false = true ∧ seen.getD 1 false = false from ⟨hs0, hs1⟩)
              have HCAP := Lib.hid hcap
              have HLO5 := Lib.hid (show w.heap.size ≤ FB ∧ w.heap.size ≤ SB from ⟨Nat.le_trans HM.out.bel.size hFB, Nat.le_trans HM.out.bel.size hSB⟩)
              clear hb5 hfb hsb hflow hlen hs0 hs1 hcap hFB hSB g1 g2 HMO HM
              by_cases hlt : a < ND
              · have HCUT : Hid (CutOk J S (fun i => seen.getD (2 + i) false) (fun t => seen.getD (2 + J.length + t) false)) := Lib.hid (cap_cut HV.out (X := fun v => seen.getD v false) HS01.out.1 HS01.out.2 (by rw [HE.out, ← HCAP.out, HNDX.out]; exact hlt))
                have y1 : decide (a < ND) = true := decide_eq_true hlt
                clear hlt HCAP HFL HFB HS01
                go_upto_region 30 with (fail)
                have HJF := Lib.hid (show ∀ w'', Below W5.heap.size W5 w'' → w''.cell? ⟨w.heap.size, 0, none⟩ = some (.slice oj J.length cj) ∧ w''.cell? ⟨F9, 0, none⟩ = some (.func (.func 17) #[] #[]) ∧ w''.cell? ⟨F10, 0, none⟩ = some (.func (.func 18) #[] #[.pointer (some ⟨w.heap.size, 0, none⟩)]) from fun w'' hb => ⟨(HCL.out _ _ _ _ (HM5.out.later hb)).1, (HCL.out _ _ _ _ (HM5.out.later hb)).2.1, (HCL.out _ _ _ _ (HM5.out.later hb)).2.2.1⟩)
                have HCJ := Lib.hid (fun w'' (hb : Below W5.heap.size W5 w'') => chosenJ_any J.length N SB seen w'' (HSB.out.later hb) HLEN.out (by have := HNN.out; omega) (by have := HNN.out; omega))
                have HCS := Lib.hid (fun w'' (hb : Below W5.heap.size W5 w'') => chosenS_any S.length N SB seen w.heap.size oj J.length cj (by omega) w'' (HJF.out w'' hb).1 (HSB.out.later hb) HLEN.out (by have := HNN.out; omega) (by have := HNN.out; omega))
                obtain ⟨L1, hL1⟩ : ∃ L, chosenL (fun i => seen.getD (2 + i) false) J.length = L := ⟨_, rfl⟩
                obtain ⟨L2, hL2⟩ : ∃ L, chosenL (fun i => seen.getD (2 + J.length + i) false) S.length = L := ⟨_, rfl⟩
                have HL12 := Lib.hid (show _ ∧ _ from ⟨hL1, hL2⟩)
                rw [hL1] at HCJ
                rw [hL2] at HCS
                clear hL1 hL2
                refine wp_region_maskF [4, 9, 10, 11, 12] [true, true, true, true, false, true, true, true, true, false, false, false, false] (fun w'' => w''.cell? ⟨w.heap.size, 0, none⟩ = some (.slice oj J.length cj) ∧ w''.cell? ⟨F9, 0, none⟩ = some (.func (.func 17) #[] #[]) ∧ w''.cell? ⟨F10, 0, none⟩ = some (.func (.func 18) #[] #[.pointer (some ⟨w.heap.size, 0, none⟩)])) mixed (by kernel_rfl) ?_
                intro KR hR
                have HR := Lib.hid hR
                clear hR
                simp only [marked]
                apply wpM_val rfl
                · (intro w' hw'; obtain ⟨c0, c1, c2⟩ := hw'; go_simp; with_reducible rfl)
                simp only [Act.put, List.setIfInBounds_toArray, List.set_cons_zero, List.set_cons_succ]
                apply wpM_val rfl
                · (intro w' hw'; go_simp; with_reducible rfl)
                simp only [Act.put, List.setIfInBounds_toArray, List.set_cons_zero, List.set_cons_succ]
                apply wpM_val rfl
                · (intro w' hw'; go_simp; with_reducible rfl)
                simp only [Act.put, List.setIfInBounds_toArray, List.set_cons_zero, List.set_cons_succ]
                apply wpM_val rfl
                · (intro w' hw'; obtain ⟨c0, c1, c2⟩ := hw'; go_simp; with_reducible rfl)
                simp only [Act.put, List.setIfInBounds_toArray, List.set_cons_zero, List.set_cons_succ]
                apply wpM_val rfl
                · (intro w' hw'; go_simp; with_reducible rfl)
                simp only [Act.put, List.setIfInBounds_toArray, List.set_cons_zero, List.set_cons_succ]
                apply wpM_val rfl
                · (intro w' hw'; go_simp; with_reducible rfl)
                simp only [Act.put, List.setIfInBounds_toArray, List.set_cons_zero, List.set_cons_succ]
                apply wpM_val rfl
                · (intro w' hw'; go_simp; with_reducible rfl)
                simp only [Act.put, List.setIfInBounds_toArray, List.set_cons_zero, List.set_cons_succ]
                apply wpM_val rfl
                · (intro w' hw'; obtain ⟨c0, c1, c2⟩ := hw'; go_simp; with_reducible rfl)
                simp only [Act.put, List.setIfInBounds_toArray, List.set_cons_zero, List.set_cons_succ]
                refine wpM_nil (HR.out _ ?_)
                clear HR
                have HR0 : Hid (ChR W5 W5.drew [4, 9, 10, 11, 12] L1 L2 (u 129) (u 134) (u 135) (u 24)) := Lib.hid ⟨(Below.refl _ _).drew, fun h => absurd (by decide) h, fun h => absurd (by decide) h, fun h => absurd (by decide) h, fun h => absurd (by decide) h, fun h => absurd (by decide) h, fun h => absurd (by decide) h⟩
                refine wpF_inv (fun rest V wr => ∃ x129 x134 x135 x24, V = ({ tmps := #[.slice oj J.length cj, .slice os S.length cs, .pointer (some ⟨w.heap.size, 0, none⟩), undef, .slice none 0 0, .pointer (some ⟨w.heap.size + 1, 0, none⟩), .int .i64 0, .int .i64 0, .int .i64 1, .pointer (some ⟨F9, 0, none⟩), .pointer (some ⟨F10, 0, none⟩), .pointer (some ⟨G, 0, none⟩), .int .i64 ND, u 13, u 14, u 15, u 16, u 17, u 18, u 19, .int .i64 a, .slice (some ⟨FB, 0, none⟩) E.length E.length, .slice (some ⟨SB, 0, none⟩) N N, .int .i64 0, x24, u 25, u 26, u 27, u 28, u 29, u 30, u 31, u 32, u 33, u 34, u 35, u 36, u 37, u 38, u 39, u 40, u 41, u 42, u 43, u 44, u 45, u 46, u 47, u 48, u 49, u 50, u 51, u 52, u 53, u 54, u 55, u 56, u 57, u 58, u 59, u 60, u 61, u 62, u 63, u 64, u 65, u 66, u 67, u 68, u 69, u 70, u 71, u 72, u 73, u 74, u 75, u 76, u 77, u 78, u 79, u 80, u 81, u 82, u 83, u 84, .slice oj J.length cj, .int .i64 J.length, .int .i64 J.length, u 88, u 89, u 90, u 91, u 92, u 93, u 94, u 95, u 96, u 97, u 98, u 99, u 100, u 101, u 102, u 103, u 104, u 105, u 106, u 107, u 108, u 109, .tuple #[.int .i64 a, .slice (some ⟨FB, 0, none⟩) E.length E.length, .slice (some ⟨SB, 0, none⟩) N N, .int .i64 0], .agg #[.int .i64 (N : Nat), .slice oe E.length ce], .int .i64 0, .int .i64 1, .tuple #[.int .i64 a, .slice (some ⟨FB, 0, none⟩) E.length E.length, .slice (some ⟨SB, 0, none⟩) N N, .int .i64 0], .int .i64 a, .slice (some ⟨FB, 0, none⟩) E.length E.length, .slice (some ⟨SB, 0, none⟩) N N, .int .i64 0, .int .i64 0, .bool false, u 121, .int .i64 a, .int .i64 ND, .bool true, .slice oj J.length cj, .int .i64 J.length, .slice (some ⟨SB, 0, none⟩) N N, .func (.func 17) #[] #[], x129, .slice os S.length cs, .int .i64 S.length, .slice (some ⟨SB, 0, none⟩) N N, .func (.func 18) #[] #[.pointer (some ⟨w.heap.size, 0, none⟩)], x134, x135, u 136, u 137, u 138, u 139, u 140, u 141, u 142, u 143, u 144, u 145, u 146, u 147, u 148, u 149, u 150, u 151, u 152, u 153, u 154, u 155, u 156, u 157, u 158, u 159, u 160, u 161, u 162, u 163, u 164, u 165, u 166, u 167, u 168, u 169, u 170, u 171, u 172], defers := marksD Ds } : Act) ∧ ChR W5 wr rest L1 L2 x129 x134 x135 x24) [4, 9, 10, 11, 12] ?actJ ?actS ?actF _ _ _ _ rfl (by decide) (fun _ h => h) ⟨u 129, u 134, u 135, u 24, rfl, HR0.out⟩
                case actJ =>
                  rintro rest V wr ⟨x129, x134, x135, x24, rfl, hR⟩
                  exact HJF.out wr hR.bel
                case actS =>
                  rintro rest V wr c hnd hC ⟨x129, x134, x135, x24, rfl, hR⟩ hc hf
                  have hcc := hC c hc
                  simp only [List.mem_cons, List.not_mem_nil, or_false] at hcc
                  rcases hcc with rfl | rfl | rfl | rfl | rfl
                  · refine ⟨_, rfl, rfl, stepC_call (f := 22) (args := #[.int .i64 J.length, .slice (some ⟨SB, 0, none⟩) N N, .func (.func 17) #[] #[]]) (w' := wr) ?_ ?_⟩
                    · have hR := Lib.hid hR; go_simp
                    · refine (HCJ.out wr hR.bel).mono ?_
                      rintro e w2 ⟨hb, v, rfl, hrow⟩
                      refine ⟨_, rfl, ?_⟩
                      simp only [Act.put, List.setIfInBounds_toArray]
                      exact ⟨_, _, _, _, rfl, hR.call1 hc hb hrow⟩
                  · refine ⟨_, rfl, rfl, stepC_call (f := 22) (args := #[.int .i64 S.length, .slice (some ⟨SB, 0, none⟩) N N, .func (.func 18) #[] #[.pointer (some ⟨w.heap.size, 0, none⟩)]]) (w' := wr) ?_ ?_⟩
                    · have hR := Lib.hid hR; go_simp
                    · refine (HCS.out wr hR.bel).mono ?_
                      rintro e w2 ⟨hb, v, rfl, hrow⟩
                      refine ⟨_, rfl, ?_⟩
                      simp only [Act.put, List.setIfInBounds_toArray]
                      exact ⟨_, _, _, _, rfl, hR.call2 hc hb hrow⟩
                  · have h4 : 4 ∉ rest := freeC_done hf (by kernel_rfl)
                    have h9 : 9 ∉ rest := freeC_done hf (by kernel_rfl)
                    obtain ⟨o1, k1, rfl, _⟩ := ownsRow_shapeQ (hR.r1 h4)
                    obtain ⟨o2, k2, rfl, _⟩ := ownsRow_shapeQ (hR.r2 h9)
                    refine ⟨_, rfl, rfl, stepC_val (v := .agg #[.slice o1 L1.length k1, .slice o2 L2.length k2]) (w' := wr) ?_ ?_⟩
                    · clear hR; go_simp
                    · simp only [Act.put, List.setIfInBounds_toArray]
                      exact ⟨_, _, _, _, rfl, hR.built hc h4 h9⟩
                  · refine ⟨_, rfl, rfl, stepC_val (v := .pointer (some ⟨wr.heap.size, 0, none⟩)) (w' := wr.alloc (.cells #[.slice none 0 0, .slice none 0 0] 30)) ?_ ?_⟩
                    · clear hR; go_simp
                    · simp only [Act.put, List.setIfInBounds_toArray]
                      exact ⟨_, _, _, _, rfl, hR.made hc⟩
                  · have h10 : 10 ∉ rest := freeC_done hf (by kernel_rfl)
                    have h11 : 11 ∉ rest := freeC_done hf (by kernel_rfl)
                    obtain ⟨A, rfl, e2, e3, _⟩ := hR.a h11
                    obtain ⟨⟨h4, h9⟩, rfl⟩ := hR.b h10
                    obtain ⟨o1, k1, rfl, _⟩ := ownsRow_shapeQ (hR.r1 h4)
                    obtain ⟨o2, k2, rfl, _⟩ := ownsRow_shapeQ (hR.r2 h9)
                    have hB := e3 hc
                    have g0 : wr.cell? ⟨A, 0, none⟩ = some (.slice none 0 0) := hB.cell 0
                    have g1 : wr.cell? ⟨A, 1, none⟩ = some (.slice none 0 0) := hB.cell 1
                    have f0 := hB.frozen
                    refine ⟨_, rfl, rfl, stepC_skip (w' := (wr.setCell ⟨A, 0, none⟩ (.slice o1 L1.length k1)).setCell ⟨A, 1, none⟩ (.slice o2 L2.length k2)) rfl ?_ ?_⟩
                    · clear hR hB; go_simp
                    · exact ⟨_, _, _, _, rfl, hR.stored hnd hc h10 h11⟩
                case actF =>
                  rintro V W6 ⟨v1, v2, x135, x24, rfl, hR⟩
                  obtain ⟨A, rfl, hA, _, hblk⟩ := hR.a (by simp)
                  have hr1 := hR.r1 (by simp)
                  have hr2 := hR.r2 (by simp)
                  obtain ⟨o1, k1, rfl, _⟩ := ownsRow_shapeQ hr1
                  obtain ⟨o2, k2, rfl, _⟩ := ownsRow_shapeQ hr2
                  have HXC : Hid (x.C = w.heap.size + 1) := Lib.hid (by rw [HXX.out])
                  have HCM := Lib.hid (CutM.of HM5.out hR.bel hr1 hr2)
                  have HCB := Lib.hid (HM5.out.later hR.bel).c
                  rw [HXC.out] at HCM HCB
                  have hab := hblk (by simp)
                  have c0 : W6.cell? ⟨A, 0, none⟩ = some (.slice o1 L1.length k1) := hab.cell 0
                  have c1 : W6.cell? ⟨A, 1, none⟩ = some (.slice o2 L2.length k2) := hab.cell 1
                  have d0 : W6.cell? ⟨w.heap.size + 1, 0, none⟩ = some (.slice none 0 0) := HCB.out.cell 0
                  have d1 : W6.cell? ⟨w.heap.size + 1, 1, none⟩ = some (.slice none 0 0) := HCB.out.cell 1
                  have f0 := HCB.out.frozen 0
                  have f1 := HCB.out.frozen 1
                  clear hR hr1 hr2 hab hblk hA HM5 HJF HCJ HCS HR0 HSB
                  go_wp2_with fail
                  go_region
                  all_goals
                    go_wp2
                    (try simp only [Exit.noGoto_ret])
                    have HD := Lib.hid (HCM.out.later (Below.refl _ _).drew)
                    refine leaves_marks w.heap.size (fun W' => CutM w W' (w.heap.size + 1) (.slice o1 L1.length k1) (.slice o2 L2.length k2) L1 L2 []) (fun W' D hD h1 h2 => h2.taken h1 hD) Ds _ _ (by simp) HDN.out (fun D hD => ⟨HDL.out D hD, HD.out.ds D hD⟩) HD.out.free ?_
                    intro W' hm'
                    have e0 : W'.cell? ⟨w.heap.size + 1, 0, none⟩ = some (.slice o1 L1.length k1) := hm'.c.cell 0
                    have e1 : W'.cell? ⟨w.heap.size + 1, 1, none⟩ = some (.slice o2 L2.length k2) := hm'.c.cell 1
                    refine ⟨.tuple #[.slice none 0 0, .agg #[.slice o1 L1.length k1, .slice o2 L2.length k2], .int .i64 10], ?_, hm'.bel, .inr ⟨_, _, _, _, rfl, by rw [HL12.out.1]; exact hm'.r1, by rw [HL12.out.2]; exact hm'.r2, HCUT.out⟩⟩
                    simp [results, Try.results8, go_sem, e0, e1]
              · have HPL : Hid (PlanOk J S (flowP J S fl)) := Lib.hid (flow_plan HV.out (by rw [HE.out]; exact HFL.out) (by rw [HNDX.out]; omega))
                have y1 : decide (a < ND) = false := decide_eq_false hlt
                clear hlt HCAP HSB HS01
                have p5 := (HCL.out _ _ _ _ HM5.out).1
                go_wp2_with fail
                refine (table_any J.length S.length (by omega) (by omega) W5).mono ?_
                rintro _ W6 ⟨hb6, AL, OB, rfl, hAL, hOB, hal, hob⟩
                have HM6 := Lib.hid (HM5.out.later hb6)
                have HFB6 := Lib.hid (HFB.out.later hb6)
                have HAL6 := Lib.hid hal
                have HOB6 := Lib.hid hob
                have HNE6 := Lib.hid (show AL ≠ FB from fun e => by have := HFB.out.lt; omega)
                have HLO6 := Lib.hid (show w.heap.size ≤ AL ∧ w.heap.size ≤ OB from ⟨Nat.le_trans HM5.out.bel.size hAL, Nat.le_trans HM5.out.bel.size hOB⟩)
                clear hb6 hAL hOB hal hob HM5 HFB p5
                go_upto_region 33 with (fail)
                obtain ⟨W7, hW7⟩ : ∃ W, W = W6.alloc (.cells #[.slice (some ⟨OB, 0, none⟩) J.length J.length] 28) := ⟨_, rfl⟩
                have hb7 : Below W6.heap.size W6 W7 := by rw [hW7]; exact below_alloc (Below.refl _ _) _
                have HPB7 := Lib.hid (show Blk W7 W6.heap.size 28 #[.slice (some ⟨OB, 0, none⟩) J.length J.length] by rw [hW7]; exact Blk.new ..)
                have HM7 := Lib.hid (HM6.out.later hb7)
                have HFB7 := Lib.hid (HFB6.out.later hb7)
                have HAL7 := Lib.hid (HAL6.out.later hb7)
                have HOB7 := Lib.hid (HOB6.out.later hb7)
                rw [← hW7]
                clear hW7 hb7 HFB6 HAL6 HOB6
                have HPBL := Lib.hid HM6.out.bel.size
                obtain ⟨PB, hPB⟩ : ∃ B, W6.heap.size = B := ⟨_, rfl⟩
                rw [hPB] at HPB7 HPBL ⊢
                clear hPB HM6
                have p7 := (HCL.out _ _ _ _ HM7.out).1
                have HQR : Hid (J.length + S.length + offJ J J.length = E.length) := Lib.hid (by rw [← HE.out, graph_len])
                obtain ⟨qo, hqo⟩ : ∃ q, J.length + S.length = q := ⟨_, rfl⟩
                have HQO := Lib.hid hqo
                obtain ⟨EL, hEL⟩ : ∃ q, E.length = q := ⟨_, rfl⟩
                have HEL := Lib.hid hEL
                rw [hqo, hEL] at HQR
                rw [hEL]
                have hqr := HQR.out
                have e7 : IntKind.i64.wrap ((J.length : Int) + (S.length : Int)) = (qo : Int) := by rw [← hqo]; push_cast; exact IntWalk.i64_in _ (by omega)
                have y7 : (0 : Int) ≤ (qo : Int) := by omega
                have y8 : (qo : Int) ≤ (EL : Int) := by omega
                clear hqo hEL
                go_upto_region 34 with (fail)
                obtain ⟨W8, hW8⟩ : ∃ W, W = W7.alloc (.cells #[.slice (if EL = qo then some ⟨FB, 0, none⟩ else some ⟨FB, qo, none⟩) (EL - qo) (EL - qo)] 23) := ⟨_, rfl⟩
                have hb8 : Below W7.heap.size W7 W8 := by rw [hW8]; exact below_alloc (Below.refl _ _) _
                have HPM : Hid (PlM w W8 w.heap.size (w.heap.size + 1) PB W7.heap.size AL OB FB oj J.length cj S.length fl (List.replicate (J.length * S.length) 0) (.slice (if EL = qo then some ⟨FB, 0, none⟩ else some ⟨FB, qo, none⟩) (EL - qo) (EL - qo)) Ds) := Lib.hid (by
                  have hm := HM7.out
                  rw [HXX.out] at hm
                  have hs := hm.bel.size
                  exact ⟨below_step hm.bel hb8, hm.p.later hb8, hm.c.later hb8, HOB7.out.later hb8, HAL7.out.later hb8, HFB7.out.later hb8, HPB7.out.later hb8, by rw [hW8]; exact Blk.new .., HNE6.out, Nat.ne_of_lt HOB7.out.lt, ⟨Nat.le_succ _, HLO6.out.1, hs, HLO6.out.2⟩, fun D hD => (hb8.block D (Array.getElem?_eq_some_iff.1 (hm.ds D hD)).1).trans (hm.ds D hD)⟩)
                rw [← hW8]
                clear hW8 hb8 HM7 HOB7 HAL7 HFB7 HPB7 p7
                obtain ⟨UB, hUB⟩ : ∃ B, W7.heap.size = B := ⟨_, rfl⟩
                rw [hUB] at HPM ⊢
                clear hUB
                have HFE : Hid (fl.length = EL) := Lib.hid (by rw [← HEL.out]; exact HFL.out.len.symm)
                have HUV := Lib.hid (UseV.first (FB := FB) (EL := EL) (q := qo) (by omega))
                obtain ⟨uv, huv⟩ : ∃ v, Value.slice (if EL = qo then some ⟨FB, 0, none⟩ else some ⟨FB, qo, none⟩) (EL - qo) (EL - qo) = v := ⟨_, rfl⟩
                rw [huv] at HPM HUV ⊢
                clear huv
                have p8 := HPM.out.p.cell 0
                go_wp2_with fail
                rename_i K6 hK6
                have HEND2 : ∀ (a : Act) (Ds : List Nat) (W : World) (L : List Int) (uv : Value), a = plF oj J.length cj (w.heap.size + 1) PB UB (.int .i64 J.length) (fun i => a.tmps.getD i undef) (marksD Ds) → PlM w (W) w.heap.size (w.heap.size + 1) PB UB AL OB FB oj J.length cj S.length fl L uv Ds → TabL J S fl J.length 0 L → Ds.Nodup → (∀ D ∈ Ds, w.heap.size ≤ D) → K6 a W := by
                  intro a Ds W L uv ha hm htab hnd hlo
                  have HM := Lib.hid hm
                  have HDN := Lib.hid hnd
                  have HDL := Lib.hid hlo
                  have HTB := Lib.hid htab
                  obtain ⟨u, ha⟩ : ∃ u, a = plF oj J.length cj (w.heap.size + 1) PB UB (.int .i64 J.length) (u) (marksD Ds) := ⟨_, ha⟩
                  subst ha
                  refine hK6 _ _ ?_
                  unfold plF
                  have q1 : W.cell? ⟨PB, 0, none⟩ = some (.slice (some ⟨OB, 0, none⟩) J.length J.length) := hm.pb.cell 0
                  have d0 : W.cell? ⟨w.heap.size + 1, 0, none⟩ = some (.slice none 0 0) := hm.c.cell 0
                  have d1 : W.cell? ⟨w.heap.size + 1, 1, none⟩ = some (.slice none 0 0) := hm.c.cell 1
                  have f0 := hm.c.frozen 0
                  have f1 := hm.c.frozen 1
                  clear hm hnd hlo htab
                  go_wp2
                  (try simp only [Exit.noGoto_ret])
                  have HD := Lib.hid HM.out.setC
                  refine leaves_marks w.heap.size (fun W' => PlM w (W') w.heap.size (w.heap.size + 1) PB UB AL OB FB oj J.length cj S.length fl L uv []) (fun W' D hD h1 h2 => h2.taken h1 hD) Ds _ _ (by simp) HDN.out (fun D hD => ⟨HDL.out D hD, HD.out.ds D hD⟩) HD.out.free ?_
                  intro W' hm'
                  have e0 : W'.cell? ⟨w.heap.size + 1, 0, none⟩ = some (.slice none 0 0) := hm'.c.cell 0
                  have e1 : W'.cell? ⟨w.heap.size + 1, 1, none⟩ = some (.slice none 0 0) := hm'.c.cell 1
                  refine ⟨.tuple #[.slice (some ⟨OB, 0, none⟩) J.length J.length, .agg #[.slice none 0 0, .slice none 0 0], .int .i64 0], ?_, hm'.bel, .inl ⟨AL, OB, L, flowP J S fl, rfl, HLO6.out, hm'.ob, hm'.al, HTB.out.len, fun i t hi ht => (HTB.out.val i t hi ht).trans (if_pos (.inl hi)), HPL.out⟩⟩
                  simp [results, Try.results8, go_sem, e0, e1]
                have HEND2H := Lib.hid HEND2
                clear HEND2 hK6
                refine (wpIn_wide (n := n)).1 ?_
                refine wpIn_loop (Rel4 w J S fl oj cj PB UB AL OB FB EL qo) (fun a _ => J.length - (intOf (a.tmps.getD 151 undef)).toNat) ⟨0, Ds, _, uv, Nat.zero_le _, rfl, HPM.out, TabL.zero J S fl, HUV.out, HDN.out, HDL.out⟩ ?_
                clear HPM HUV p8
                rintro a4 W ⟨k, Ds4, L, uv, hk, ha, hm, htab, huse, hnd, hlo⟩
                obtain ⟨u, ha⟩ : ∃ u, a4 = plF oj J.length cj (w.heap.size + 1) PB UB (.int .i64 k) (u) (marksD Ds4) := ⟨_, ha⟩
                subst ha
                unfold plF
                have HM := Lib.hid hm
                have HTB := Lib.hid htab
                have HUS := Lib.hid huse
                have HDN4 := Lib.hid hnd
                have HDL4 := Lib.hid hlo
                clear hm htab huse hnd hlo
                by_cases hlt : k < J.length
                · obtain ⟨b, off, rfl, c0, c1, c2, c3, c4⟩ := (HJ.out.later HM.out.bel) k hlt
                  have hej := HV.out.j _ (getJ_mem hlt)
                  obtain ⟨F, T, e, r, kk, hj⟩ := job_nat hej
                  have HFT := Lib.hid (show F ≤ T ∧ T ≤ S.length by
                    have a0 := hej.ft; have a1 := hej.tm
                    rw [hj] at a0 a1
                    dsimp only at a0 a1
                    omega)
                  have HFN := Lib.hid (show (getJ J k).f.toNat = F ∧ (getJ J k).t.toNat = T ∧ lenJ (getJ J k) = T - F by
                    unfold lenJ
                    rw [hj]
                    exact ⟨Int.toNat_natCast _, Int.toNat_natCast _, by dsimp only; rw [Int.toNat_natCast, Int.toNat_natCast]⟩)
                  have HOF := Lib.hid (show offJ J k + (T - F) ≤ offJ J J.length by rw [← HFN.out.2.2]; exact offJ_le hlt)
                  rw [hj] at c0 c1 c2 c3 c4
                  clear hj hej
                  dsimp only at c0 c1 c2 c3 c4
                  have y1 : (0 : Int) ≤ (k : Int) := by omega
                  have y2 : (k : Int) < (J.length : Int) := by omega
                  gi_wp2_with fail
                  refine inCall (slots_any (F : Int) (T : Int) e r kk _) ?_
                  rintro _ _ ⟨rfl, rfl⟩
                  obtain ⟨W2, hW2⟩ : ∃ W', W' = (W.alloc (.cells #[.int .i64 (k : Nat)] 3)).alloc (.cells (boxC F T e r kk) 27) := ⟨_, rfl⟩
                  have hb2 : Below W.heap.size W W2 := by rw [hW2]; exact below_alloc (below_alloc (Below.refl _ _) _) _
                  have HI2 := Lib.hid (show Blk W2 W.heap.size 3 #[.int .i64 (k : Nat)] by rw [hW2]; exact (Blk.new ..).alloc _)
                  have HJ2 := Lib.hid (show Blk W2 (W.heap.size + 1) 27 (boxC F T e r kk) by
                    rw [hW2]
                    have := Blk.new (W.alloc (.cells #[.int .i64 (k : Nat)] 3)) 27 (boxC F T e r kk)
                    rwa [World.size_alloc] at this)
                  have HM2 := Lib.hid (HM.out.later hb2)
                  have HNA := Lib.hid (show W.heap.size ≠ AL from fun e => by have := HM.out.al.lt; omega)
                  rw [← hW2]
                  clear hW2 hb2 c0 c1 c2 c3 c4
                  obtain ⟨IB, hIB⟩ : ∃ F, W.heap.size = F := ⟨_, rfl⟩
                  obtain ⟨JB, hJB⟩ : ∃ F, W.heap.size + 1 = F := ⟨_, rfl⟩
                  rw [hJB] at HJ2 ⊢
                  rw [hIB] at HI2 HNA ⊢
                  clear hIB hJB
                  obtain ⟨W3, hW3⟩ : ∃ W', W' = W2.alloc (.cells (boxC F T e r kk) 27) := ⟨_, rfl⟩
                  have hb3 : Below W2.heap.size W2 W3 := by rw [hW3]; exact below_alloc (Below.refl _ _) _
                  have HQ3 := Lib.hid (show Blk W3 W2.heap.size 27 (boxC F T e r kk) by rw [hW3]; exact Blk.new ..)
                  have HI3 := Lib.hid (HI2.out.later hb3)
                  have HJ3 := Lib.hid (HJ2.out.later hb3)
                  have HM3 := Lib.hid (HM2.out.later hb3)
                  rw [← hW3]
                  clear hW3 hb3 HI2 HJ2 HM2
                  obtain ⟨q, hq⟩ : ∃ q, W2.heap.size = q := ⟨_, rfl⟩
                  rw [hq] at HQ3 ⊢
                  clear hq
                  have HDB := Lib.hid (show ∀ D ∈ Ds4, D < W3.heap.size from fun D hD => (Array.getElem?_eq_some_iff.1 (HM3.out.ds D hD)).1)
                  gi_wp2_with fail
                  refine wpIn_rangeFunc_ownH (F := Fence.wide) rfl (by omega) (gf := 35) (lb := #[.pointer (some ⟨q, 0, none⟩)]) rfl trivial (enters_of Try.func35 (by kernel_rfl) rfl)
                    (w0 := W3) (encs := encT (F := F) (T := T)) (Kp := KpQ w.heap.size q) (S := TDone) (Sp := fun _ => True) (N := T - F)
                    (fun lp J Jx W' hW' hJ hJx hY h0 => (slots1_in (n - 1) lp q w F T e r kk HFT.out.1 (by have := HFT.out.2; omega) J Jx hY W' (below_step HM3.out.bel hW') (HQ3.out.later hW') h0).mono (fun e W4 h => ⟨h.1, h.2.imp (fun h => h) (fun ⟨p, hp⟩ => ⟨p, trivial, hp⟩)⟩))
                    (fun h k => h.trans k)
                    (fun W' lb ob ob' h1 h2 _ _ => ⟨(Below.refl _ _).grown (grownBy_putObj' W' lb ob') (by have := (Array.getElem?_eq_some_iff.1 h2).1; have := HM3.out.bel.size; omega) (fun k e => by cases e; have := HM3.out.bel.size; omega), World.putObj_heap_other (by have := HQ3.out.lt; omega)⟩)
                    (Below.refl _ _) (fun _ => rfl)
                    (fun pre W' => S4 w W' ⟨w.heap.size, w.heap.size + 1, PB, UB, AL, OB, FB, some ⟨b, off, none⟩, cj, EL, qo⟩ J S fl k IB JB q (boxC F T e r kk) Ds4 pre)
                    (fun c pre W' => False)
                    (fun pre A B row hs hg hr => hs.turn HDB.out HM3.out.bel.size hg hr)
                    (fun c pre A B row hs hg hr => hs)
                    ⟨L, uv, HM3.out, HTB.out.len, fun _ => HTB.out.start HFN.out.1, HUS.out, HI3.out, HJ3.out, HQ3.out⟩
                    (fun t a' W' => a' = ({ tmps := #[u 0, u 1, u 2, u 3, u 4, .pointer (some ⟨w.heap.size + 1, 0, none⟩), u 6, u 7, u 8, u 9, u 10, u 11, u 12, u 13, u 14, u 15, u 16, u 17, u 18, u 19, u 20, u 21, u 22, u 23, u 24, .pointer (some ⟨PB, 0, none⟩), .pointer (some ⟨UB, 0, none⟩), .pointer (some ⟨IB, 0, none⟩), .pointer (some ⟨JB, 0, none⟩), .int .i64 ((t.1 : Nat) : Int), u 30, u 31, u 32, u 33, u 34, u 35, u 36, u 37, u 38, u 39, u 40, u 41, u 42, u 43, u 44, u 45, u 46, u 47, u 48, u 49, u 50, u 51, u 52, u 53, u 54, u 55, u 56, u 57, u 58, u 59, u 60, u 61, u 62, u 63, u 64, u 65, u 66, u 67, u 68, u 69, u 70, u 71, u 72, u 73, u 74, u 75, u 76, u 77, u 78, u 79, u 80, u 81, u 82, u 83, u 84, u 85, u 86, u 87, u 88, u 89, u 90, u 91, u 92, u 93, u 94, u 95, u 96, u 97, u 98, u 99, u 100, u 101, u 102, u 103, u 104, u 105, u 106, u 107, u 108, u 109, u 110, u 111, u 112, u 113, u 114, u 115, u 116, u 117, u 118, u 119, u 120, u 121, u 122, u 123, u 124, u 125, u 126, u 127, u 128, u 129, u 130, u 131, u 132, u 133, u 134, u 135, u 136, u 137, u 138, u 139, u 140, u 141, u 142, u 143, u 144, u 145, u 146, u 147, u 148, .slice (some ⟨b, off, none⟩) J.length cj, .int .i64 J.length, .int .i64 (k : Nat), .bool true, .int .i64 (k : Nat), .pointer (some ⟨b, off + k * 5, none⟩), .agg (boxC F T e r kk), .agg (boxC F T e r kk), .func (.func 35) #[] #[.pointer (some ⟨q, 0, none⟩)], .int .i64 ((t.1 : Nat) : Int), u 159, u 160, u 161, u 162, u 163, u 164, u 165, u 166, u 167, u 168, u 169, u 170, u 171, u 172], defers := [] } : Act))
                    (fun t a' _ A B row hs hg hr => hs)
                    ?assign ?body ?done ?stop
                  case assign =>
                    rintro lp pre t W' K hI hK
                    have HK := Lib.hid hK
                    have HI := Lib.hid hI
                    clear hK hI
                    gi_wp2
                    exact HK.out _ _ (KeepsFrom.refl _ _) ⟨Below.refl _ _, rfl⟩ HI.out rfl
                  case body =>
                    rintro lp pre t a' W' hlp hrec ⟨L, uv, h1, h0, h2, h3, h4, h5, h6⟩ rfl hpl
                    have HM4 : Hid (PlM w W' w.heap.size (w.heap.size + 1) PB UB AL OB FB (some ⟨b, off, none⟩) J.length cj S.length fl L uv Ds4) := Lib.hid h1
                    have HLL := Lib.hid h0
                    have HTB4 := Lib.hid h2
                    have HI4 := Lib.hid h4
                    have HJ4 := Lib.hid h5
                    have HQ4 := Lib.hid h6
                    have hft := HFT.out
                    have hof := HOF.out
                    have hqr := HQR.out
                    obtain ⟨uo, R, rfl, hpR, huo⟩ : UseV FB EL (qo + offJ J k + pre.length) uv := h3
                    have hR0 : 0 < R := by omega
                    obtain rfl := huo hR0
                    have hposl : qo + offJ J k + pre.length < fl.length := by rw [HFE.out]; omega
                    have ht1 := t.2.1
                    have ht2 := t.2.2
                    have HVAL : Hid (t.1 = F + pre.length → fl.getD (qo + offJ J k + pre.length) 0 = flowP J S fl k t.1) := Lib.hid (fun ht => by
                      unfold flowP
                      rw [HFN.out.1, HFN.out.2.1, if_pos ⟨t.2.1, t.2.2⟩, HQO.out, ht, Nat.add_sub_cancel_left, Nat.add_assoc])
                    have HFP := Lib.hid (fun (W : World) (hb : Blk W FB 3 (intsC fl)) => show W.cell? ⟨FB, qo + offJ J k + pre.length, none⟩ = some (.int .i64 (fl.getD (qo + offJ J k + pre.length) 0)) from (hb.cell _).trans (intsC_get hposl))
                    have HUN := Lib.hid (UseV.next (FB := FB) hpR hR0)
                    clear h1 h0 h2 h4 h5 h6 hlp hrec HM3 HI3 HJ3 HQ3 huo hft hof hqr hposl
                    obtain ⟨pos, hpos⟩ : ∃ p, qo + offJ J k + pre.length = p := ⟨_, rfl⟩
                    have HPOS := Lib.hid hpos
                    rw [hpos] at HFP HVAL HM4 hpR HUN
                    clear hpos
                    obtain ⟨x0, hx0⟩ : ∃ x, fl.getD pos 0 = x := ⟨_, rfl⟩
                    rw [hx0] at HFP HVAL
                    clear hx0
                    have HRO := Lib.hid (show k * S.length + t.1 < J.length * S.length from flat_lt hlt (by have := HFT.out.2; omega))
                    have hts : t.1 < S.length := by have := HFT.out.2; omega
                    obtain ⟨t, htt⟩ := t
                    dsimp only at HVAL HRO ht1 ht2 hts ⊢
                    obtain ⟨ro, hro⟩ : ∃ p, k * S.length = p := ⟨_, rfl⟩
                    have HROO := Lib.hid hro
                    rw [hro] at HRO
                    have HOC := Lib.hid (fun (W : World) (hb : Blk W OB 23 (rowsC (fun i => .slice (some ⟨AL, i * S.length, none⟩) S.length S.length) J.length)) => show W.cell? ⟨OB, k, none⟩ = some (.slice (some ⟨AL, ro, none⟩) S.length S.length) from by rw [← hro]; exact (hb.cell k).trans (rowsC_get hlt))
                    clear hro
                    have z1 : (0 : Int) ≤ (t : Int) := by omega
                    have z2 : (t : Int) < (S.length : Int) := by omega
                    have z3 : (0 : Int) < (R : Int) := by omega
                    have z4 : (1 : Int) ≤ (R : Int) := by omega
                    gi_wp2_with fail
                    refine wpIn_region_mask [11, 12] [true, true, true, true, true, true, true, true, true, true, true, false, false] (fun w'' => w''.cell? ⟨PB, 0, none⟩ = some (.slice (some ⟨OB, 0, none⟩) J.length J.length) ∧ w''.cell? ⟨IB, 0, none⟩ = some (.int .i64 (k : Nat)) ∧ w''.cell? ⟨OB, k, none⟩ = some (.slice (some ⟨AL, ro, none⟩) S.length S.length) ∧ w''.cell? ⟨UB, 0, none⟩ = some (.slice (some ⟨FB, pos, none⟩) R R) ∧ w''.cell? ⟨FB, pos, none⟩ = some (.int .i64 x0)) mixed (by kernel_rfl) (by kernel_rfl) (by rintro ⟨_, _, h⟩; exact h) ?_
                    intro KR hR
                    have HR := Lib.hid hR
                    clear hR
                    simp only [marked]
                    apply wpM_val rfl
                    · (intro w' hw'; obtain ⟨c0, c1, c2, c3, c4⟩ := hw'; go_simp; with_reducible rfl)
                    simp only [Act.put, List.setIfInBounds_toArray, List.set_cons_zero, List.set_cons_succ]
                    apply wpM_val rfl
                    · (intro w' hw'; obtain ⟨c0, c1, c2, c3, c4⟩ := hw'; go_simp; with_reducible rfl)
                    simp only [Act.put, List.setIfInBounds_toArray, List.set_cons_zero, List.set_cons_succ]
                    apply wpM_val rfl
                    · (intro w' hw'; go_simp; with_reducible rfl)
                    simp only [Act.put, List.setIfInBounds_toArray, List.set_cons_zero, List.set_cons_succ]
                    apply wpM_val rfl
                    · (intro w' hw'; obtain ⟨c0, c1, c2, c3, c4⟩ := hw'; go_simp; with_reducible rfl)
                    simp only [Act.put, List.setIfInBounds_toArray, List.set_cons_zero, List.set_cons_succ]
                    apply wpM_val rfl
                    · (intro w' hw'; go_simp; with_reducible rfl)
                    simp only [Act.put, List.setIfInBounds_toArray, List.set_cons_zero, List.set_cons_succ]
                    apply wpM_val rfl
                    · (intro w' hw'; obtain ⟨c0, c1, c2, c3, c4⟩ := hw'; go_simp; with_reducible rfl)
                    simp only [Act.put, List.setIfInBounds_toArray, List.set_cons_zero, List.set_cons_succ]
                    apply wpM_val rfl
                    · (intro w' hw'; go_simp; with_reducible rfl)
                    simp only [Act.put, List.setIfInBounds_toArray, List.set_cons_zero, List.set_cons_succ]
                    apply wpM_val rfl
                    · (intro w' hw'; obtain ⟨c0, c1, c2, c3, c4⟩ := hw'; go_simp; with_reducible rfl)
                    simp only [Act.put, List.setIfInBounds_toArray, List.set_cons_zero, List.set_cons_succ]
                    apply wpM_val rfl
                    · (intro w' hw'; obtain ⟨c0, c1, c2, c3, c4⟩ := hw'; go_simp; with_reducible rfl)
                    simp only [Act.put, List.setIfInBounds_toArray, List.set_cons_zero, List.set_cons_succ]
                    apply wpM_val rfl
                    · (intro w' hw'; go_simp; with_reducible rfl)
                    simp only [Act.put, List.setIfInBounds_toArray, List.set_cons_zero, List.set_cons_succ]
                    apply wpM_val rfl
                    · (intro w' hw'; go_simp; with_reducible rfl)
                    simp only [Act.put, List.setIfInBounds_toArray, List.set_cons_zero, List.set_cons_succ]
                    refine wpM_nil (HR.out _ ?_)
                    clear HR
                    obtain ⟨W5, hW5⟩ : ∃ W, W = W'.drew := ⟨_, rfl⟩
                    have hb5 : Below W'.heap.size W' W5 := by rw [hW5]; exact (Below.refl _ _).drew
                    have HM5 := Lib.hid (HM4.out.later hb5)
                    have HI5 := Lib.hid (HI4.out.later hb5)
                    have HJ5 := Lib.hid (HJ4.out.later hb5)
                    have HQ5 := Lib.hid (HQ4.out.later hb5)
                    have HBD5 := Lib.hid hb5
                    have HF5 := Lib.hid (show W5.cell? ⟨PB, 0, none⟩ = some (.slice (some ⟨OB, 0, none⟩) J.length J.length) ∧ W5.cell? ⟨IB, 0, none⟩ = some (.int .i64 (k : Nat)) ∧ W5.cell? ⟨OB, k, none⟩ = some (.slice (some ⟨AL, ro, none⟩) S.length S.length) ∧ W5.cell? ⟨UB, 0, none⟩ = some (.slice (some ⟨FB, pos, none⟩) R R) ∧ W5.cell? ⟨FB, pos, none⟩ = some (.int .i64 x0) from ⟨HM5.out.pb.cell 0, HI5.out.cell 0, HOC.out W5 HM5.out.ob, HM5.out.ub.cell 0, HFP.out W5 HM5.out.fb⟩)
                    rw [← hW5]
                    clear hW5 hb5
                    have g1 : W5.cell? ⟨AL, ro + t, none⟩ = some (.int .i64 (L.getD (ro + t) 0)) := (HM5.out.al.cell _).trans (intsC_get (by rw [HLL.out]; exact HRO.out))
                    have f1 := HM5.out.al.frozen (ro + t)
                    refine wpC_skipN rfl rfl rfl HF5.out (w' := W5.setCell ⟨AL, ro + t, none⟩ (.int .i64 x0)) (by go_simp) ?_
                    have HI6 := Lib.hid (HI5.out.other (p := ⟨AL, ro + t, none⟩) HNA.out (.int .i64 x0))
                    have HJ6 := Lib.hid (HJ5.out.other (p := ⟨AL, ro + t, none⟩) (Blk.ne HJ5.out HM5.out.al (by decide)) (.int .i64 x0))
                    have HQ6 := Lib.hid (HQ5.out.other (p := ⟨AL, ro + t, none⟩) (Blk.ne HQ5.out HM5.out.al (by decide)) (.int .i64 x0))
                    have HM6 := Lib.hid (HM5.out.setA (ro + t) x0)
                    have HKS6 := Lib.hid (show KeepsOthers W5 (W5.setCell ⟨AL, ro + t, none⟩ (.int .i64 x0)) from keeps_agr ((Agr.refl W5 [AL]).set (List.mem_singleton.2 rfl)) (cells_of HM5.out.al))
                    have HBW6 := Lib.hid (show Below w.heap.size W5 (W5.setCell ⟨AL, ro + t, none⟩ (.int .i64 x0)) from (Below.refl _ _).setCell HM5.out.low.2.1 _)
                    obtain ⟨W6, hW6⟩ : ∃ W, W = W5.setCell ⟨AL, ro + t, none⟩ (.int .i64 x0) := ⟨_, rfl⟩
                    rw [← hW6] at HI6 HJ6 HQ6 HM6 HKS6 HBW6 ⊢
                    clear hW6 g1 f1 HF5 HM5 HI5 HJ5 HQ5
                    have HF6 := Lib.hid (show W6.cell? ⟨PB, 0, none⟩ = some (.slice (some ⟨OB, 0, none⟩) J.length J.length) ∧ W6.cell? ⟨IB, 0, none⟩ = some (.int .i64 (k : Nat)) ∧ W6.cell? ⟨OB, k, none⟩ = some (.slice (some ⟨AL, ro, none⟩) S.length S.length) ∧ W6.cell? ⟨UB, 0, none⟩ = some (.slice (some ⟨FB, pos, none⟩) R R) ∧ W6.cell? ⟨FB, pos, none⟩ = some (.int .i64 x0) from ⟨HM6.out.pb.cell 0, HI6.out.cell 0, HOC.out W6 HM6.out.ob, HM6.out.ub.cell 0, HFP.out W6 HM6.out.fb⟩)
                    have g2 := HF6.out.2.2.2.1
                    have f2 := HM6.out.ub.frozen 0
                    refine wpC_skipN rfl rfl rfl HF6.out (w' := W6.setCell ⟨UB, 0, none⟩ (.slice (if R = 1 then some ⟨FB, pos, none⟩ else some ⟨FB, pos + 1, none⟩) (R - 1) (R - 1))) (by go_simp) ?_
                    refine wpC_nil ?_
                    have HM7 := Lib.hid (HM6.out.setU (.slice (if R = 1 then some ⟨FB, pos, none⟩ else some ⟨FB, pos + 1, none⟩) (R - 1) (R - 1)))
                    have HI7 := Lib.hid (HI6.out.other (p := ⟨UB, 0, none⟩) (Blk.ne HI6.out HM6.out.ub (by decide)) (.slice (if R = 1 then some ⟨FB, pos, none⟩ else some ⟨FB, pos + 1, none⟩) (R - 1) (R - 1)))
                    have HJ7 := Lib.hid (HJ6.out.other (p := ⟨UB, 0, none⟩) (Blk.ne HJ6.out HM6.out.ub (by decide)) (.slice (if R = 1 then some ⟨FB, pos, none⟩ else some ⟨FB, pos + 1, none⟩) (R - 1) (R - 1)))
                    have HQ7 := Lib.hid (HQ6.out.other (p := ⟨UB, 0, none⟩) (Blk.ne HQ6.out HM6.out.ub (by decide)) (.slice (if R = 1 then some ⟨FB, pos, none⟩ else some ⟨FB, pos + 1, none⟩) (R - 1) (R - 1)))
                    have HKS7 := Lib.hid (show KeepsOthers W6 (W6.setCell ⟨UB, 0, none⟩ (.slice (if R = 1 then some ⟨FB, pos, none⟩ else some ⟨FB, pos + 1, none⟩) (R - 1) (R - 1))) from keeps_agr ((Agr.refl W6 [UB]).set (List.mem_singleton.2 rfl)) (cells_of HM6.out.ub))
                    have HBW7 := Lib.hid (show Below w.heap.size W6 (W6.setCell ⟨UB, 0, none⟩ (.slice (if R = 1 then some ⟨FB, pos, none⟩ else some ⟨FB, pos + 1, none⟩) (R - 1) (R - 1))) from (Below.refl _ _).setCell HM6.out.low.2.2.1 _)
                    have hbA := HBD5.out
                    have hbB := ((hbA.mono HM4.out.bel.size).trans HBW6.out).trans HBW7.out
                    have hpl1 : (pre ++ [(⟨t, htt⟩ : SlT F T)]).length = pre.length + 1 := by simp
                    have hend : KeepsFrom W3.heap.size W' (W6.setCell ⟨UB, 0, none⟩ (.slice (if R = 1 then some ⟨FB, pos, none⟩ else some ⟨FB, pos + 1, none⟩) (R - 1) (R - 1))) ∧ KpQ w.heap.size q W' (W6.setCell ⟨UB, 0, none⟩ (.slice (if R = 1 then some ⟨FB, pos, none⟩ else some ⟨FB, pos + 1, none⟩) (R - 1) (R - 1))) ∧ S4 w (W6.setCell ⟨UB, 0, none⟩ (.slice (if R = 1 then some ⟨FB, pos, none⟩ else some ⟨FB, pos + 1, none⟩) (R - 1) (R - 1))) ⟨w.heap.size, w.heap.size + 1, PB, UB, AL, OB, FB, some ⟨b, off, none⟩, cj, EL, qo⟩ J S fl k IB JB q (boxC F T e r kk) Ds4 (pre ++ [⟨t, htt⟩]) :=
                      ⟨(((keeps_agr (Agr.of_below (S := []) hbA) (fun _ h => by cases h)).trans HKS6.out).trans HKS7.out).from _, ⟨hbB, HQ7.out.trans HQ4.out.symm⟩, _, _, HM7.out, by rw [List.length_set]; exact HLL.out, fun hp => by
                        have hp2 := range'_pre hp
                        have ht3 : t = F + pre.length := hp2.2
                        have h9 := (HTB4.out hp2.1).step (x := x0) hlt (by rw [← ht3]; exact hts) (by rw [← ht3]; exact HVAL.out ht3)
                        rw [← ht3, HROO.out] at h9
                        rw [hpl1, ← Nat.add_assoc, ← ht3]
                        exact h9, by
                        have h9 := HUN.out
                        rw [← HPOS.out] at h9
                        rw [← HPOS.out, hpl1]
                        exact h9, HI7.out, HJ7.out, HQ7.out⟩
                    exact hend
                  case done =>
                    rintro D xs W' hD hS ⟨L, uv, h1, h0, h2, h3, h4, h5, h6⟩ hmk
                    have hnD : D ∉ Ds4 := fun hm => by have := HDB.out D hm; omega
                    have hS2 : xs.map (·.1) = List.range' F (T - F) := hS
                    have hxl : xs.length = T - F := by
                      have := congrArg List.length hS2
                      rwa [List.length_map, List.length_range'] at this
                    have hm9 := h1.mark hmk
                    have HM9 := Lib.hid hm9
                    have HTB9 : Hid (TabL J S fl (k + 1) 0 L) := Lib.hid (by
                      have h9 := h2 (by rw [hxl]; exact hS2)
                      rw [hxl, show F + (T - F) = T by have := HFT.out.1; omega] at h9
                      exact h9.next HFN.out.2.1)
                    have HUS9 : Hid (UseV FB EL (qo + offJ J (k + 1)) uv) := Lib.hid (by
                      have h9 : UseV FB EL (qo + offJ J k + xs.length) uv := h3
                      rw [hxl, ← HFN.out.2.2, Nat.add_assoc] at h9
                      exact h9)
                    have HDN9 := Lib.hid (show (D :: Ds4).Nodup from List.nodup_cons.2 ⟨hnD, HDN4.out⟩)
                    have HDL9 := Lib.hid (show ∀ D' ∈ D :: Ds4, w.heap.size ≤ D' from fun D' hD' => by
                      rcases List.mem_cons.1 hD' with e | e
                      · rw [e]; exact Nat.le_trans HM3.out.bel.size hD
                      · exact HDL4.out D' e)
                    clear h1 h0 h2 h3 h4 h5 h6 hm9 hS hS2 hxl hmk hnD hD HM3 HI3 HJ3 HQ3
                    gi_wp2
                    refine ⟨?_, meas_lt hlt⟩
                    exact ⟨k + 1, D :: Ds4, L, uv, hlt, rfl, HM9.out, HTB9.out, HUS9.out, HDN9.out, HDL9.out⟩
                  case stop =>
                    rintro D c pre W' hD _ hf
                    exact hf.elim
                · obtain rfl : k = J.length := by omega
                  clear hlt
                  gi_wp2
                  exact HEND2H.out _ Ds4 W L uv rfl HM.out HTB.out HDN4.out HDL4.out
            have HENDH := Lib.hid HEND
            clear HEND hK5
            refine (wpIn_wide (n := n)).1 ?_
            refine wpIn_loop (fun a W => ∃ (k : Nat) (Ds : List Nat) (v : Value), k ≤ J.length ∧ a = schF oj os J.length S.length cj cs w.heap.size (w.heap.size + 1) F9 F10 G ND (.int .i64 k) (fun i => a.tmps.getD i undef) (marksD Ds) ∧ ScM w W x (gA J J.length ++ gB J.length S S.length ++ gC J J.length k) v Ds ∧ Ds.Nodup ∧ (∀ D ∈ Ds, w.heap.size ≤ D)) (fun a _ => J.length - (intOf (a.tmps.getD 87 undef)).toNat) ⟨0, [], v, Nat.zero_le _, rfl, by rw [show gC J J.length 0 = [] from rfl, List.append_nil]; exact HM.out, List.nodup_nil, fun _ h => (by cases h)⟩ ?_
            clear HM
            rintro a W ⟨k, Ds, v, hk, ha, hm, hnd, hlo⟩
            obtain ⟨u, ha⟩ : ∃ u, a = schF oj os J.length S.length cj cs w.heap.size (w.heap.size + 1) F9 F10 G ND (.int .i64 k) (u) (marksD Ds) := ⟨_, ha⟩
            subst ha
            unfold schF
            have HM := Lib.hid hm
            have HDN := Lib.hid hnd
            have HDL := Lib.hid hlo
            clear hm hnd hlo
            by_cases hlt : k < J.length
            · obtain ⟨b, off, rfl, c0, c1, c2, c3, c4⟩ := (HJ.out.later HM.out.bel) k hlt
              have hej := HV.out.j _ (getJ_mem hlt)
              obtain ⟨F, T, e, r, kk, hj⟩ := job_nat hej
              have HFT := Lib.hid (show F ≤ T ∧ T ≤ S.length ∧ 0 ≤ r ∧ r ≤ 1000 by
                have a0 := hej.ft; have a1 := hej.tm; have a2 := hej.r0; have a3 := hej.r1
                rw [hj] at a0 a1 a2 a3
                dsimp only at a0 a1 a2 a3
                omega)
              have HGS := Lib.hid (gR_range (n := J.length) (i := k) hj)
              have HGC := Lib.hid (show gC J J.length (k + 1) = gC J J.length k ++ gR J.length k (getJ J k) from rfl)
              have HOL := Lib.hid (gC_off_le HV.out (k := k) hk)
              rw [hj] at c0 c1 c2 c3 c4
              clear hj hej
              dsimp only at c0 c1 c2 c3 c4
              have y1 : (0 : Int) ≤ (k : Int) := by omega
              have y2 : (k : Int) < (J.length : Int) := by omega
              gi_wp2_with fail
              refine inCall (slots_any (F : Int) (T : Int) e r kk _) ?_
              rintro _ _ ⟨rfl, rfl⟩
              obtain ⟨W2, hW2⟩ : ∃ W', W' = (W.alloc (.cells #[.int .i64 (k : Nat)] 3)).alloc (.cells (boxC F T e r kk) 27) := ⟨_, rfl⟩
              have hb2 : Below W.heap.size W W2 := by rw [hW2]; exact below_alloc (below_alloc (Below.refl _ _) _) _
              have HI2 := Lib.hid (show Blk W2 W.heap.size 3 #[.int .i64 (k : Nat)] by rw [hW2]; exact (Blk.new ..).alloc _)
              have HJ2 := Lib.hid (show Blk W2 (W.heap.size + 1) 27 (boxC F T e r kk) by
                rw [hW2]
                have := Blk.new (W.alloc (.cells #[.int .i64 (k : Nat)] 3)) 27 (boxC F T e r kk)
                rwa [World.size_alloc] at this)
              have HM2 := Lib.hid (HM.out.later hb2)
              rw [← hW2]
              clear hW2 hb2 c0 c1 c2 c3 c4
              obtain ⟨IB, hIB⟩ : ∃ F, W.heap.size = F := ⟨_, rfl⟩
              obtain ⟨JB, hJB⟩ : ∃ F, W.heap.size + 1 = F := ⟨_, rfl⟩
              rw [hJB] at HJ2 ⊢
              rw [hIB] at HI2 ⊢
              clear hIB hJB
              obtain ⟨W3, hW3⟩ : ∃ W', W' = W2.alloc (.cells (boxC F T e r kk) 27) := ⟨_, rfl⟩
              have hb3 : Below W2.heap.size W2 W3 := by rw [hW3]; exact below_alloc (Below.refl _ _) _
              have HQ3 := Lib.hid (show Blk W3 W2.heap.size 27 (boxC F T e r kk) by rw [hW3]; exact Blk.new ..)
              have HI3 := Lib.hid (HI2.out.later hb3)
              have HJ3 := Lib.hid (HJ2.out.later hb3)
              have HM3 := Lib.hid (HM2.out.later hb3)
              rw [← hW3]
              clear hW3 hb3 HI2 HJ2 HM2
              obtain ⟨q, hq⟩ : ∃ q, W2.heap.size = q := ⟨_, rfl⟩
              rw [hq] at HQ3 ⊢
              clear hq
              have HDB := Lib.hid (show ∀ D ∈ Ds, D < W3.heap.size from fun D hD => (Array.getElem?_eq_some_iff.1 (HM3.out.ds D hD)).1)
              gi_wp2_with fail
              refine wpIn_rangeFunc_ownH (F := Fence.wide) rfl (by omega) (gf := 35) (lb := #[.pointer (some ⟨q, 0, none⟩)]) rfl trivial (enters_of Try.func35 (by kernel_rfl) rfl)
                (w0 := W3) (encs := encT (F := F) (T := T)) (Kp := KpQ w.heap.size q) (S := TDone) (Sp := fun _ => True) (N := T - F)
                (fun lp J' Jx W' hW' hJ hJx hY h0 => (slots1_in (n - 1) lp q w F T e r kk HFT.out.1 (by have := HFT.out.2.1; omega) J' Jx hY W' (below_step HM3.out.bel hW') (HQ3.out.later hW') h0).mono (fun e W4 h => ⟨h.1, h.2.imp (fun h => h) (fun ⟨p, hp⟩ => ⟨p, trivial, hp⟩)⟩))
                (fun h k => h.trans k)
                (fun W' lb ob ob' h1 h2 _ _ => ⟨(Below.refl _ _).grown (grownBy_putObj' W' lb ob') (by have := (Array.getElem?_eq_some_iff.1 h2).1; have := HM3.out.bel.size; omega) (fun k e => by cases e; have := HM3.out.bel.size; omega), World.putObj_heap_other (by have := HQ3.out.lt; omega)⟩)
                (Below.refl _ _) (fun _ => rfl)
                (fun pre W' => S3 w W' x (gA J J.length ++ gB J.length S S.length ++ gC J J.length k) (2 + k) (2 + J.length) r IB JB q k (boxC F T e r kk) Ds pre)
                (fun c pre W' => False)
                (fun pre A B row hs hg hr => hs.turn HDB.out HM3.out.bel.size hg hr)
                (fun c pre A B row hs hg hr => hs)
                ⟨⟨v, by rw [List.map_nil, List.append_nil]; exact HM3.out⟩, HI3.out, HJ3.out, HQ3.out⟩
                (fun t a' W' => a' = ({ tmps := #[.slice (some ⟨b, off, none⟩) J.length cj, .slice os S.length cs, .pointer (some ⟨w.heap.size, 0, none⟩), undef, .slice none 0 0, .pointer (some ⟨w.heap.size + 1, 0, none⟩), .int .i64 0, .int .i64 0, .int .i64 1, .pointer (some ⟨F9, 0, none⟩), .pointer (some ⟨F10, 0, none⟩), .pointer (some ⟨G, 0, none⟩), .int .i64 ND, u 13, u 14, u 15, u 16, .pointer (some ⟨IB, 0, none⟩), .pointer (some ⟨JB, 0, none⟩), .int .i64 ((t.1 : Nat) : Int), u 20, u 21, u 22, u 23, u 24, u 25, u 26, u 27, u 28, u 29, u 30, u 31, u 32, u 33, u 34, u 35, u 36, u 37, u 38, u 39, u 40, u 41, u 42, u 43, u 44, u 45, u 46, u 47, u 48, u 49, u 50, u 51, u 52, u 53, u 54, u 55, u 56, u 57, u 58, u 59, u 60, u 61, u 62, u 63, u 64, u 65, u 66, u 67, u 68, u 69, u 70, u 71, u 72, u 73, u 74, u 75, u 76, u 77, u 78, u 79, u 80, u 81, u 82, u 83, u 84, .slice (some ⟨b, off, none⟩) J.length cj, .int .i64 J.length, .int .i64 (k : Nat), .bool true, .int .i64 (k : Nat), .pointer (some ⟨b, off + k * 5, none⟩), .agg (boxC F T e r kk), .agg (boxC F T e r kk), .func (.func 35) #[] #[.pointer (some ⟨q, 0, none⟩)], .int .i64 ((t.1 : Nat) : Int), u 95, u 96, u 97, u 98, u 99, u 100, u 101, u 102, u 103, u 104, u 105, u 106, u 107, u 108, u 109, u 110, u 111, u 112, u 113, u 114, u 115, u 116, u 117, u 118, u 119, u 120, u 121, u 122, u 123, u 124, u 125, u 126, u 127, u 128, u 129, u 130, u 131, u 132, u 133, u 134, u 135, u 136, u 137, u 138, u 139, u 140, u 141, u 142, u 143, u 144, u 145, u 146, u 147, u 148, u 149, u 150, u 151, u 152, u 153, u 154, u 155, u 156, u 157, u 158, u 159, u 160, u 161, u 162, u 163, u 164, u 165, u 166, u 167, u 168, u 169, u 170, u 171, u 172], defers := [] } : Act))
                (fun t a' _ A B row hs hg hr => hs)
                ?assign ?body ?done ?stop
              case assign =>
                rintro lp pre t W' K hI hK
                have HK := Lib.hid hK
                have HI := Lib.hid hI
                clear hK hI
                gi_wp2
                exact HK.out _ _ (KeepsFrom.refl _ _) ⟨Below.refl _ _, rfl⟩ HI.out rfl
              case body =>
                rintro lp pre t a' W' hlp hrec ⟨⟨v, h1⟩, h2, h3, h4⟩ rfl hpl
                have HM4 := Lib.hid h1
                have HI4 := Lib.hid h2
                have HJ4 := Lib.hid h3
                have HQ4 := Lib.hid h4
                clear h1 h2 h3 h4 hlp hrec HM3 HI3 HJ3 HQ3
                have hgl : (gA J J.length ++ gB J.length S S.length ++ gC J J.length k ++ pre.map (fun t => (⟨2 + k, 2 + J.length + t.1, r⟩ : Ed))).length ≤ 1000 := by
                  rw [List.length_append, List.length_append, List.length_append, gA_len, gB_len, List.length_map]
                  have h1 := HOL.out
                  have h2 := HFT.out.2.1
                  omega
                obtain ⟨E0, hE0⟩ : ∃ E, gA J J.length ++ gB J.length S S.length ++ gC J J.length k = E := ⟨_, rfl⟩
                have HE0 := Lib.hid hE0
                rw [hE0] at HM4 hgl
                clear hE0
                have ht1 := t.2.2
                have ht2 := HFT.out.2.1
                have HJN := Lib.hid (jobN_any k (by omega))
                have HSL := Lib.hid (fun (W : World) (hc : W.cell? ⟨w.heap.size, 0, none⟩ = some (.slice (some ⟨b, off, none⟩) J.length cj)) => slotN_any t.1 w.heap.size (some ⟨b, off, none⟩) J.length cj (by omega) (by omega) W hc)
                have HMA := Lib.hid (show pre.map (fun t => (⟨2 + k, 2 + J.length + t.1, r⟩ : Ed)) ++ [(⟨2 + k, 2 + J.length + t.1, r⟩ : Ed)] = (pre ++ [t]).map (fun t => (⟨2 + k, 2 + J.length + t.1, r⟩ : Ed)) by rw [List.map_append]; rfl)
                obtain ⟨E1, hE1⟩ : ∃ E, pre.map (fun t => (⟨2 + k, 2 + J.length + t.1, r⟩ : Ed)) = E := ⟨_, rfl⟩
                rw [hE1] at HM4 hgl HMA
                clear hE1
                obtain ⟨M1, hM1⟩ : ∃ M, 2 + k = M := ⟨_, rfl⟩
                obtain ⟨M2, hM2⟩ : ∃ M, 2 + J.length + t.1 = M := ⟨_, rfl⟩
                rw [hM1] at HJN
                rw [hM2] at HSL
                have HMM := Lib.hid (show (⟨M1, M2, r⟩ : Ed) = ⟨2 + k, 2 + J.length + t.1, r⟩ by rw [hM1, hM2])
                clear hM1 hM2 ht1 ht2
                have HQ0 := Lib.hid HQ4.out
                have HM00 := Lib.hid HM4.out
                gi_wp2_with fail
                obtain ⟨oe, ce, hv⟩ := HM4.out.shape
                obtain ⟨ne, hne⟩ : ∃ n, (E0 ++ E1).length = n := ⟨_, rfl⟩
                rw [hne] at hv
                subst hv
                have HNE := Lib.hid hne
                clear hne
                refine wpIn_region_mask [4, 7, 10, 11, 12, 14] [true, true, true, true, false, true, true, false, true, true, false, false, false, true, false] (fun w'' => w''.cell? ⟨G, 1, none⟩ = some (.slice oe ne ce) ∧ w''.cell? ⟨F9, 0, none⟩ = some (.func (.func 17) #[] #[]) ∧ w''.cell? ⟨F10, 0, none⟩ = some (.func (.func 18) #[] #[.pointer (some ⟨w.heap.size, 0, none⟩)]) ∧ w''.cell? ⟨IB, 0, none⟩ = some (.int .i64 (k : Nat)) ∧ w''.cell? ⟨JB, 3, none⟩ = some (.int .i64 r)) mixed (by kernel_rfl) (by kernel_rfl) (by rintro ⟨_, _, h⟩; exact h) ?_
                intro KR hR
                have HR := Lib.hid hR
                clear hR
                simp only [marked]
                apply wpM_val rfl
                · (intro w' hw'; go_simp; with_reducible rfl)
                simp only [Act.put, List.setIfInBounds_toArray, List.set_cons_zero, List.set_cons_succ]
                apply wpM_val rfl
                · (intro w' hw'; obtain ⟨c0, c1, c2, c3, c4⟩ := hw'; go_simp; with_reducible rfl)
                simp only [Act.put, List.setIfInBounds_toArray, List.set_cons_zero, List.set_cons_succ]
                apply wpM_val rfl
                · (intro w' hw'; obtain ⟨c0, c1, c2, c3, c4⟩ := hw'; go_simp; with_reducible rfl)
                simp only [Act.put, List.setIfInBounds_toArray, List.set_cons_zero, List.set_cons_succ]
                apply wpM_val rfl
                · (intro w' hw'; obtain ⟨c0, c1, c2, c3, c4⟩ := hw'; go_simp; with_reducible rfl)
                simp only [Act.put, List.setIfInBounds_toArray, List.set_cons_zero, List.set_cons_succ]
                apply wpM_val rfl
                · (intro w' hw'; obtain ⟨c0, c1, c2, c3, c4⟩ := hw'; go_simp; with_reducible rfl)
                simp only [Act.put, List.setIfInBounds_toArray, List.set_cons_zero, List.set_cons_succ]
                apply wpM_val rfl
                · (intro w' hw'; go_simp; with_reducible rfl)
                simp only [Act.put, List.setIfInBounds_toArray, List.set_cons_zero, List.set_cons_succ]
                apply wpM_val rfl
                · (intro w' hw'; go_simp; with_reducible rfl)
                simp only [Act.put, List.setIfInBounds_toArray, List.set_cons_zero, List.set_cons_succ]
                apply wpM_val rfl
                · (intro w' hw'; obtain ⟨c0, c1, c2, c3, c4⟩ := hw'; go_simp; with_reducible rfl)
                simp only [Act.put, List.setIfInBounds_toArray, List.set_cons_zero, List.set_cons_succ]
                apply wpM_val rfl
                · (intro w' hw'; go_simp; with_reducible rfl)
                simp only [Act.put, List.setIfInBounds_toArray, List.set_cons_zero, List.set_cons_succ]
                refine wpM_nil (HR.out _ ?_)
                clear HR
                obtain ⟨W5, hW5⟩ : ∃ W, W = W'.drew := ⟨_, rfl⟩
                have hb5 : Below W'.heap.size W' W5 := by rw [hW5]; exact (Below.refl _ _).drew
                have HM5 := Lib.hid (HM4.out.later hb5)
                have HP5 := Lib.hid (show Blk W5 IB 3 #[.int .i64 (k : Nat)] ∧ Blk W5 JB 27 (boxC F T e r kk) ∧ Blk W5 q 27 (boxC F T e r kk) from ⟨HI4.out.later hb5, HJ4.out.later hb5, HQ4.out.later hb5⟩)
                have HJ5 := Lib.hid (show W5.cell? ⟨G, 1, none⟩ = some (.slice oe ne ce) ∧ W5.cell? ⟨F9, 0, none⟩ = some (.func (.func 17) #[] #[]) ∧ W5.cell? ⟨F10, 0, none⟩ = some (.func (.func 18) #[] #[.pointer (some ⟨w.heap.size, 0, none⟩)]) ∧ W5.cell? ⟨IB, 0, none⟩ = some (.int .i64 (k : Nat)) ∧ W5.cell? ⟨JB, 3, none⟩ = some (.int .i64 r) from ⟨(HCL.out _ _ _ _ HM5.out).2.2.2.1, (HCL.out _ _ _ _ HM5.out).2.1, (HCL.out _ _ _ _ HM5.out).2.2.1, HP5.out.1.cell 0, HP5.out.2.1.cell 3⟩)
                have HBD5 := Lib.hid hb5
                rw [← hW5]
                clear hW5 hb5
                refine wpC_call (f := 17) (args := #[.int .i64 (k : Nat)]) (w' := W5) rfl rfl HJ5.out (by go_simp) ?_
                refine (HJN.out W5).mono ?_
                rintro _ _ ⟨rfl, rfl⟩
                refine ⟨_, rfl, ?_⟩
                simp only [Act.put, List.setIfInBounds_toArray]
                refine wpC_call (f := 18) (args := #[.int .i64 ((t.1 : Nat) : Int), .pointer (some ⟨w.heap.size, 0, none⟩)]) (w' := W5) rfl rfl HJ5.out (by go_simp) ?_
                refine (HSL.out W5 (HCL.out _ _ _ _ HM5.out).1).mono ?_
                rintro _ _ ⟨rfl, rfl⟩
                refine ⟨_, rfl, ?_⟩
                simp only [Act.put]
                refine wpC_run rfl rfl HJ5.out (v := .agg #[.int .i64 (M1 : Nat), .int .i64 (M2 : Nat), .int .i64 r]) (w' := W5) (by go_simp) ?_
                simp only [Act.put]
                refine wpC_run rfl rfl HJ5.out (v := .slice (some ⟨W5.heap.size, 0, none⟩) 1 1) (w' := W5.alloc (.cells #[.int .i64 (M1 : Nat), .int .i64 (M2 : Nat), .int .i64 r] 55)) (by go_simp) ?_
                simp only [Act.put]
                have hba : Below W5.heap.size W5 (W5.alloc (.cells #[.int .i64 (M1 : Nat), .int .i64 (M2 : Nat), .int .i64 r] 55)) := below_alloc (Below.refl _ _) _
                have HM6 := Lib.hid (HM5.out.later hba)
                have HP6 := Lib.hid (show Blk (W5.alloc (.cells #[.int .i64 (M1 : Nat), .int .i64 (M2 : Nat), .int .i64 r] 55)) IB 3 #[.int .i64 (k : Nat)] ∧ Blk (W5.alloc (.cells #[.int .i64 (M1 : Nat), .int .i64 (M2 : Nat), .int .i64 r] 55)) JB 27 (boxC F T e r kk) ∧ Blk (W5.alloc (.cells #[.int .i64 (M1 : Nat), .int .i64 (M2 : Nat), .int .i64 r] 55)) q 27 (boxC F T e r kk) from ⟨HP5.out.1.later hba, HP5.out.2.1.later hba, HP5.out.2.2.later hba⟩)
                obtain ⟨o2, c2, w', hr, hkeep, hbel, hks, hpush⟩ := HM5.out.push ⟨M1, M2, r⟩ hgl 51
                rw [HNE.out] at hr hbel hks hpush
                refine wpC_append _ _ rfl rfl rfl (show (W5.alloc (.cells #[.int .i64 (M1 : Nat), .int .i64 (M2 : Nat), .int .i64 r] 55)).cell? ⟨G, 1, none⟩ = some (.slice oe ne ce) ∧ (W5.alloc (.cells #[.int .i64 (M1 : Nat), .int .i64 (M2 : Nat), .int .i64 r] 55)).cell? ⟨F9, 0, none⟩ = some (.func (.func 17) #[] #[]) ∧ (W5.alloc (.cells #[.int .i64 (M1 : Nat), .int .i64 (M2 : Nat), .int .i64 r] 55)).cell? ⟨F10, 0, none⟩ = some (.func (.func 18) #[] #[.pointer (some ⟨w.heap.size, 0, none⟩)]) ∧ (W5.alloc (.cells #[.int .i64 (M1 : Nat), .int .i64 (M2 : Nat), .int .i64 r] 55)).cell? ⟨IB, 0, none⟩ = some (.int .i64 (k : Nat)) ∧ (W5.alloc (.cells #[.int .i64 (M1 : Nat), .int .i64 (M2 : Nat), .int .i64 r] 55)).cell? ⟨JB, 3, none⟩ = some (.int .i64 r) from ⟨(HCL.out _ _ _ _ HM6.out).2.2.2.1, (HCL.out _ _ _ _ HM6.out).2.1, (HCL.out _ _ _ _ HM6.out).2.2.1, HP6.out.1.cell 0, HP6.out.2.1.cell 3⟩) hr ?_
                simp only [Act.put]
                clear hr HM6 HP6 hba
                have HGk := Lib.hid (hkeep _ _ _ (HCL.out _ _ _ _ HM5.out).2.2.2.2 (by decide))
                have HPk := Lib.hid (show Blk w' IB 3 #[.int .i64 (k : Nat)] ∧ Blk w' JB 27 (boxC F T e r kk) ∧ Blk w' q 27 (boxC F T e r kk) from ⟨hkeep _ _ _ HP5.out.1 (by decide), hkeep _ _ _ HP5.out.2.1 (by decide), hkeep _ _ _ HP5.out.2.2 (by decide)⟩)
                have HKk := Lib.hid (show ∀ B t cs, Blk W5 B t cs → t ≠ 55 → Blk w' B t cs from hkeep)
                have HBW := Lib.hid hbel
                have HKS := Lib.hid hks
                have HPU := Lib.hid hpush
                clear hkeep hbel hks hpush
                have f8 := HGk.out.frozen 1
                have HJ8 := Lib.hid (show w'.cell? ⟨G, 1, none⟩ = some (.slice oe ne ce) ∧ w'.cell? ⟨F9, 0, none⟩ = some (.func (.func 17) #[] #[]) ∧ w'.cell? ⟨F10, 0, none⟩ = some (.func (.func 18) #[] #[.pointer (some ⟨w.heap.size, 0, none⟩)]) ∧ w'.cell? ⟨IB, 0, none⟩ = some (.int .i64 (k : Nat)) ∧ w'.cell? ⟨JB, 3, none⟩ = some (.int .i64 r) from ⟨HGk.out.cell 1, (HKk.out _ _ _ (H9B.out _ _ _ _ HM5.out).1 (by decide)).cell 0, (HKk.out _ _ _ (H9B.out _ _ _ _ HM5.out).2 (by decide)).cell 0, HPk.out.1.cell 0, HPk.out.2.1.cell 3⟩)
                have c8 := HJ8.out.1
                refine wpC_skipN rfl rfl rfl HJ8.out (w' := w'.setCell ⟨G, 1, none⟩ (.slice o2 (ne + 1) c2)) (by go_simp) ?_
                refine wpC_nil ?_
                rw [HGF.out] at HPU HBW HKS
                obtain ⟨Wa, hW8⟩ : ∃ W, W = w'.setCell ⟨G, 1, none⟩ (.slice o2 (ne + 1) c2) := ⟨_, rfl⟩
                have HPa := Lib.hid (show Blk (w'.setCell ⟨G, 1, none⟩ (.slice o2 (ne + 1) c2)) IB 3 #[.int .i64 (k : Nat)] ∧ Blk (w'.setCell ⟨G, 1, none⟩ (.slice o2 (ne + 1) c2)) JB 27 (boxC F T e r kk) ∧ Blk (w'.setCell ⟨G, 1, none⟩ (.slice o2 (ne + 1) c2)) q 27 (boxC F T e r kk) from ⟨HPk.out.1.other (p := ⟨G, 1, none⟩) (Blk.ne HPk.out.1 HGk.out (by decide)) (.slice o2 (ne + 1) c2), HPk.out.2.1.other (p := ⟨G, 1, none⟩) (Blk.ne HPk.out.2.1 HGk.out (by decide)) (.slice o2 (ne + 1) c2), HPk.out.2.2.other (p := ⟨G, 1, none⟩) (Blk.ne HPk.out.2.2 HGk.out (by decide)) (.slice o2 (ne + 1) c2)⟩)
                have HMa := HPU
                rw [← hW8] at HPa HMa HBW HKS ⊢
                clear hW8 HPU HPk HGk HKk f8 c8 HJ8 HJ5 HM5 HP5 HM4 HI4 HJ4 HQ4
                have hbA := HBD5.out
                have hbB := (hbA.mono HM00.out.bel.size).trans HBW.out
                have h9 := HMa.out
                rw [List.append_assoc, HMM.out, HMA.out, ← HE0.out] at h9
                have hend : KeepsFrom W3.heap.size W' Wa ∧ KpQ w.heap.size q W' Wa ∧ S3 w Wa x (gA J J.length ++ gB J.length S S.length ++ gC J J.length k) (2 + k) (2 + J.length) r IB JB q k (boxC F T e r kk) Ds (pre ++ [t]) := ⟨((keeps_agr (Agr.of_below (S := []) hbA) (fun _ h => by cases h)).trans HKS.out).from _, ⟨hbB, HPa.out.2.2.trans HQ0.out.symm⟩, ⟨_, h9⟩, HPa.out.1, HPa.out.2.1, HPa.out.2.2⟩
                exact hend
              case done =>
                rintro D xs W' hD hS ⟨⟨v, h1⟩, h2, h3, h4⟩ hmk
                have hnD : D ∉ Ds := fun hm => by have := HDB.out D hm; omega
                have hm9 := h1.mark hmk
                have exs : xs.map (fun t => (⟨2 + k, 2 + J.length + t.1, r⟩ : Ed)) = gR J.length k (getJ J k) := by
                  rw [HGS.out, ← show xs.map (·.1) = List.range' F (T - F) from hS, List.map_map]
                  rfl
                rw [exs, List.append_assoc, ← HGC.out] at hm9
                have HM9 := Lib.hid hm9
                have HDN9 := Lib.hid (show (D :: Ds).Nodup from List.nodup_cons.2 ⟨hnD, HDN.out⟩)
                have HDL9 := Lib.hid (show ∀ D' ∈ D :: Ds, w.heap.size ≤ D' from fun D' hD' => by
                  rcases List.mem_cons.1 hD' with e | e
                  · rw [e]; exact Nat.le_trans HM3.out.bel.size hD
                  · exact HDL.out D' e)
                clear h1 h2 h3 h4 hm9 exs hS hmk hnD hD HM3 HI3 HJ3 HQ3
                gi_wp2
                exact ⟨⟨k + 1, D :: Ds, _, hlt, rfl, HM9.out, HDN9.out, HDL9.out⟩, meas_lt hlt⟩
              case stop =>
                rintro D c pre W' hD _ hf
                exact hf.elim
            · obtain rfl : k = J.length := by omega
              clear hlt
              gi_wp2
              exact HENDH.out _ Ds W v rfl HM.out HDN.out HDL.out
end Go.Proofs.Ythgkfdhkmkbioaa