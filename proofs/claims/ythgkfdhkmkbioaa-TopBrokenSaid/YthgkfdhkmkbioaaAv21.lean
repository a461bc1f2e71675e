/- The first slot carried out: mapped jobs and numbers, admit.Advance. -/
import Derived.Test.YthgkfdhkmkbioaaRu21
namespace Go.Proofs.Ythgkfdhkmkbioaa
open Go.RowKit Go.Shelf
attribute [local go_sem] Oper.semAt_some

def advJ (j : Jb) (d : Int) : Jb := ⟨max 0 (j.f - 1), max 0 (j.t - 1), j.e - d, j.r, j.k⟩
def advL (J : List Jb) (D : List Int) : List Jb := (List.range J.length).map fun i => advJ (getJ J i) (D.getD i 0)
theorem advL_len (J : List Jb) (D : List Int) : (advL J D).length = J.length := by simp [advL]
theorem advL_get {J : List Jb} {D : List Int} {i : Nat} (h : i < J.length) : getJ (advL J D) i = advJ (getJ J i) (D.getD i 0) := by
  unfold getJ advL
  rw [List.getD_eq_getElem?_getD, List.getElem?_map, List.getElem?_range h]
  rfl
theorem advL_take {J : List Jb} {D : List Int} {k : Nat} (h : k < J.length) : (advL J D).take (k + 1) = (advL J D).take k ++ [advJ (getJ J k) (D.getD k 0)] := by
  rw [List.take_add_one, List.getElem?_eq_getElem (by rw [advL_len]; exact h)]
  have := advL_get (D := D) h
  unfold getJ at this
  rw [List.getD_eq_getElem?_getD, List.getElem?_eq_getElem (by rw [advL_len]; exact h)] at this
  simp only [Option.getD_some] at this
  simp [this, getJ]
set_option maxRecDepth 100000 in
set_option maxHeartbeats 4000000 in
theorem same_any (a n : Int) (w : World) : Calls Try.prog 43 #[.int .i64 a, .int .i64 n] w (fun e w' => e = .returned (.int .i64 n) ∧ w = w') := by
  go_enter Try.func43, Try.ntmps43
  go_wp2
  go_ret
  exact ⟨rfl, rfl⟩
/-- What a job needs to be carried on. -/
structure SmJ (j : Jb) (d : Int) : Prop where
  f0 : -1000 ≤ j.f
  f1 : j.f ≤ 1000
  t0 : -1000 ≤ j.t
  t1 : j.t ≤ 1000
  e0 : -1000000 ≤ j.e
  e1 : j.e ≤ 1000000
  d0 : -1000000 ≤ d
  d1 : d ≤ 1000000
set_option maxRecDepth 100000 in
set_option maxHeartbeats 4000000 in
theorem adv1_any (j : Jb) (i : Nat) (D : List Int) (q : Nat) (od : Option Addr) (cd : Nat) (w : World) (hb : w.cell? ⟨q, 0, none⟩ = some (.slice od D.length cd)) (hd : Ints w od D) (hi : i < D.length) (hs : SmJ j (D.getD i 0)) :
    Calls Try.prog 42 #[.int .i64 (i : Nat), jobV j, .pointer (some ⟨q, 0, none⟩)] w (fun e w' => e = .returned (jobV (advJ j (D.getD i 0))) ∧ Below w.heap.size w w') := by
  obtain ⟨bd, offd, rfl, d0⟩ := hd i hi
  obtain ⟨d, hdd⟩ : ∃ d, D.getD i 0 = d := ⟨_, rfl⟩
  rw [hdd] at hs d0
  rw [hdd]
  have h1 := hs.f0
  have h2 := hs.f1
  have h3 := hs.t0
  have h4 := hs.t1
  have h5 := hs.e0
  have h6 := hs.e1
  have h7 := hs.d0
  have h8 := hs.d1
  have y1 : (0 : Int) ≤ (i : Int) := by omega
  have y2 : (i : Int) < (D.length : Int) := by omega
  clear hdd hs hd
  go_enter Try.func42, Try.ntmps42
  go_wp2
  obtain ⟨W2, hW2⟩ : ∃ W, W = (w.alloc (.cells (jobC j) 27)).alloc (.cells #[.int .i64 0, .int .i64 0, .int .i64 0, .int .i64 0, .int .i64 0] 27) := ⟨_, rfl⟩
  have hb1 : Below w.heap.size w (w.alloc (.cells (jobC j) 27)) := below_alloc (Below.refl _ _) _
  have HB2 : Below w.heap.size w W2 := by rw [hW2]; exact below_alloc hb1 _
  have HX : Blk W2 w.heap.size 27 (jobC j) := by rw [hW2]; exact (Blk.new ..).alloc _
  have HZ : Blk W2 (w.heap.size + 1) 27 #[.int .i64 0, .int .i64 0, .int .i64 0, .int .i64 0, .int .i64 0] := by
    have := Blk.new (w.alloc (.cells (jobC j) 27)) 27 #[.int .i64 0, .int .i64 0, .int .i64 0, .int .i64 0, .int .i64 0]
    rw [World.size_alloc] at this
    rw [hW2]
    exact this
  have b0 := cell_kept HB2 hb
  have d0' := cell_kept HB2 d0
  rw [← hW2]
  clear hW2 hb1 hb d0
  obtain ⟨JB, hJB⟩ : ∃ B, w.heap.size = B := ⟨_, rfl⟩
  rw [hJB] at HX HZ
  rw [hJB]
  have c0 := HX.cell 0
  have c1 := HX.cell 1
  have c2 := HX.cell 2
  have c3 := HX.cell 3
  have c4 := HX.cell 4
  have f0 := HX.frozen 0
  have f1 := HX.frozen 1
  have f2 := HX.frozen 2
  go_region
  obtain ⟨W3, hW3⟩ : ∃ W, W = (W2.setCell ⟨JB, 2, none⟩ (.int .i64 (j.e - d))).drew := ⟨_, rfl⟩
  have HX3 : Blk W3 JB 27 #[.int .i64 j.f, .int .i64 j.t, .int .i64 (j.e - d), .int .i64 j.r, .int .i64 j.k] := by rw [hW3]; exact (HX.set 2 _).drew
  have HZ3 : Blk W3 (JB + 1) 27 #[.int .i64 0, .int .i64 0, .int .i64 0, .int .i64 0, .int .i64 0] := by rw [hW3]; exact (HZ.other (by show JB + 1 ≠ JB; omega) _).drew
  have HB3 : Below w.heap.size w W3 := by rw [hW3]; exact (HB2.setCell (by show w.heap.size ≤ JB; omega) _).drew
  rw [← hW3]
  clear hW3 HX HZ HB2 c0 c1 c2 c3 c4 f0 f1 f2 b0 d0' hi y1 y2
  obtain ⟨RB, hRB⟩ : ∃ B, JB + 1 = B := ⟨_, rfl⟩
  have hne : JB ≠ RB := by omega
  have hne2 : RB ≠ JB := by omega
  rw [hRB] at HZ3
  rw [hRB]
  have c0 := HX3.cell 0
  have c1 := HX3.cell 1
  have c2 := HX3.cell 2
  have c3 := HX3.cell 3
  have c4 := HX3.cell 4
  have f0 := HX3.frozen 0
  have f1 := HX3.frozen 1
  have z0 := HZ3.cell 0
  have z1 := HZ3.cell 1
  have z2 := HZ3.cell 2
  have z3 := HZ3.cell 3
  have z4 := HZ3.cell 4
  have g0 := HZ3.frozen 0
  have g1 := HZ3.frozen 1
  have g2 := HZ3.frozen 2
  have g3 := HZ3.frozen 3
  have g4 := HZ3.frozen 4
  have hl1 : w.heap.size ≤ (⟨JB, 0, none⟩ : Addr).block := by show w.heap.size ≤ JB; omega
  have hl2 : w.heap.size ≤ (⟨RB, 0, none⟩ : Addr).block := by show w.heap.size ≤ RB; omega
  clear hRB hJB
  by_cases hf : 0 < j.f - 1
  · have df : decide (0 < j.f - 1) = true := decide_eq_true hf
    by_cases ht : 0 < j.t - 1
    · have dt : decide (0 < j.t - 1) = true := decide_eq_true ht
      go_wp2
      obtain ⟨W9, hW9⟩ : ∃ W, W = (((((((W3.setCell ⟨JB, 0, none⟩ (.int .i64 (j.f - 1))).setCell ⟨JB, 1, none⟩ (.int .i64 (j.t - 1))).setCell ⟨RB, 0, none⟩ (.int .i64 (j.f - 1))).setCell ⟨RB, 1, none⟩ (.int .i64 (j.t - 1))).setCell ⟨RB, 2, none⟩ (.int .i64 (j.e - d))).setCell ⟨RB, 3, none⟩ (.int .i64 j.r)).setCell ⟨RB, 4, none⟩ (.int .i64 j.k)) := ⟨_, rfl⟩
      have HB9 : Below w.heap.size w W9 := by rw [hW9]; exact (((((((HB3.setCell hl1 _).setCell hl1 _).setCell hl2 _).setCell hl2 _).setCell hl2 _).setCell hl2 _).setCell hl2 _)
      have HR9 : Blk W9 RB 27 #[.int .i64 (j.f - 1), .int .i64 (j.t - 1), .int .i64 (j.e - d), .int .i64 j.r, .int .i64 j.k] := by rw [hW9]; exact (((((((HZ3.other hne2 _).other hne2 _).set 0 _).set 1 _).set 2 _).set 3 _).set 4 _)
      rw [← hW9]
      clear hW9
      have r0 := HR9.cell 0
      have r1 := HR9.cell 1
      have r2 := HR9.cell 2
      have r3 := HR9.cell 3
      have r4 := HR9.cell 4
      simp at r0 r1 r2 r3 r4
      refine bodyPost_ret (v := .agg #[.int .i64 (j.f - 1), .int .i64 (j.t - 1), .int .i64 (j.e - d), .int .i64 j.r, .int .i64 j.k]) (by simp [results, Try.results42, go_sem, r0, r1, r2, r3, r4]; try rfl) rfl ?_
      refine ⟨?_, HB9⟩
      show _ = Ending.returned (.agg #[.int .i64 (max 0 (j.f - 1)), .int .i64 (max 0 (j.t - 1)), .int .i64 (j.e - d), .int .i64 j.r, .int .i64 j.k])
      rw [Int.max_eq_right (by omega : (0 : Int) ≤ j.f - 1), Int.max_eq_right (by omega : (0 : Int) ≤ j.t - 1)]
    · have dt : decide (0 < j.t - 1) = false := decide_eq_false ht
      go_wp2
      obtain ⟨W9, hW9⟩ : ∃ W, W = (((((((W3.setCell ⟨JB, 0, none⟩ (.int .i64 (j.f - 1))).setCell ⟨JB, 1, none⟩ (.int .i64 0)).setCell ⟨RB, 0, none⟩ (.int .i64 (j.f - 1))).setCell ⟨RB, 1, none⟩ (.int .i64 0)).setCell ⟨RB, 2, none⟩ (.int .i64 (j.e - d))).setCell ⟨RB, 3, none⟩ (.int .i64 j.r)).setCell ⟨RB, 4, none⟩ (.int .i64 j.k)) := ⟨_, rfl⟩
      have HB9 : Below w.heap.size w W9 := by rw [hW9]; exact (((((((HB3.setCell hl1 _).setCell hl1 _).setCell hl2 _).setCell hl2 _).setCell hl2 _).setCell hl2 _).setCell hl2 _)
      have HR9 : Blk W9 RB 27 #[.int .i64 (j.f - 1), .int .i64 0, .int .i64 (j.e - d), .int .i64 j.r, .int .i64 j.k] := by rw [hW9]; exact (((((((HZ3.other hne2 _).other hne2 _).set 0 _).set 1 _).set 2 _).set 3 _).set 4 _)
      rw [← hW9]
      clear hW9
      have r0 := HR9.cell 0
      have r1 := HR9.cell 1
      have r2 := HR9.cell 2
      have r3 := HR9.cell 3
      have r4 := HR9.cell 4
      simp at r0 r1 r2 r3 r4
      refine bodyPost_ret (v := .agg #[.int .i64 (j.f - 1), .int .i64 0, .int .i64 (j.e - d), .int .i64 j.r, .int .i64 j.k]) (by simp [results, Try.results42, go_sem, r0, r1, r2, r3, r4]; try rfl) rfl ?_
      refine ⟨?_, HB9⟩
      show _ = Ending.returned (.agg #[.int .i64 (max 0 (j.f - 1)), .int .i64 (max 0 (j.t - 1)), .int .i64 (j.e - d), .int .i64 j.r, .int .i64 j.k])
      rw [Int.max_eq_right (by omega : (0 : Int) ≤ j.f - 1), Int.max_eq_left (by omega : j.t - 1 ≤ (0 : Int))]
  · have df : decide (0 < j.f - 1) = false := decide_eq_false hf
    by_cases ht : 0 < j.t - 1
    · have dt : decide (0 < j.t - 1) = true := decide_eq_true ht
      go_wp2
      obtain ⟨W9, hW9⟩ : ∃ W, W = (((((((W3.setCell ⟨JB, 0, none⟩ (.int .i64 0)).setCell ⟨JB, 1, none⟩ (.int .i64 (j.t - 1))).setCell ⟨RB, 0, none⟩ (.int .i64 0)).setCell ⟨RB, 1, none⟩ (.int .i64 (j.t - 1))).setCell ⟨RB, 2, none⟩ (.int .i64 (j.e - d))).setCell ⟨RB, 3, none⟩ (.int .i64 j.r)).setCell ⟨RB, 4, none⟩ (.int .i64 j.k)) := ⟨_, rfl⟩
      have HB9 : Below w.heap.size w W9 := by rw [hW9]; exact (((((((HB3.setCell hl1 _).setCell hl1 _).setCell hl2 _).setCell hl2 _).setCell hl2 _).setCell hl2 _).setCell hl2 _)
      have HR9 : Blk W9 RB 27 #[.int .i64 0, .int .i64 (j.t - 1), .int .i64 (j.e - d), .int .i64 j.r, .int .i64 j.k] := by rw [hW9]; exact (((((((HZ3.other hne2 _).other hne2 _).set 0 _).set 1 _).set 2 _).set 3 _).set 4 _)
      rw [← hW9]
      clear hW9
      have r0 := HR9.cell 0
      have r1 := HR9.cell 1
      have r2 := HR9.cell 2
      have r3 := HR9.cell 3
      have r4 := HR9.cell 4
      simp at r0 r1 r2 r3 r4
      refine bodyPost_ret (v := .agg #[.int .i64 0, .int .i64 (j.t - 1), .int .i64 (j.e - d), .int .i64 j.r, .int .i64 j.k]) (by simp [results, Try.results42, go_sem, r0, r1, r2, r3, r4]; try rfl) rfl ?_
      refine ⟨?_, HB9⟩
      show _ = Ending.returned (.agg #[.int .i64 (max 0 (j.f - 1)), .int .i64 (max 0 (j.t - 1)), .int .i64 (j.e - d), .int .i64 j.r, .int .i64 j.k])
      rw [Int.max_eq_left (by omega : j.f - 1 ≤ (0 : Int)), Int.max_eq_right (by omega : (0 : Int) ≤ j.t - 1)]
    · have dt : decide (0 < j.t - 1) = false := decide_eq_false ht
      go_wp2
      obtain ⟨W9, hW9⟩ : ∃ W, W = (((((((W3.setCell ⟨JB, 0, none⟩ (.int .i64 0)).setCell ⟨JB, 1, none⟩ (.int .i64 0)).setCell ⟨RB, 0, none⟩ (.int .i64 0)).setCell ⟨RB, 1, none⟩ (.int .i64 0)).setCell ⟨RB, 2, none⟩ (.int .i64 (j.e - d))).setCell ⟨RB, 3, none⟩ (.int .i64 j.r)).setCell ⟨RB, 4, none⟩ (.int .i64 j.k)) := ⟨_, rfl⟩
      have HB9 : Below w.heap.size w W9 := by rw [hW9]; exact (((((((HB3.setCell hl1 _).setCell hl1 _).setCell hl2 _).setCell hl2 _).setCell hl2 _).setCell hl2 _).setCell hl2 _)
      have HR9 : Blk W9 RB 27 #[.int .i64 0, .int .i64 0, .int .i64 (j.e - d), .int .i64 j.r, .int .i64 j.k] := by rw [hW9]; exact (((((((HZ3.other hne2 _).other hne2 _).set 0 _).set 1 _).set 2 _).set 3 _).set 4 _)
      rw [← hW9]
      clear hW9
      have r0 := HR9.cell 0
      have r1 := HR9.cell 1
      have r2 := HR9.cell 2
      have r3 := HR9.cell 3
      have r4 := HR9.cell 4
      simp at r0 r1 r2 r3 r4
      refine bodyPost_ret (v := .agg #[.int .i64 0, .int .i64 0, .int .i64 (j.e - d), .int .i64 j.r, .int .i64 j.k]) (by simp [results, Try.results42, go_sem, r0, r1, r2, r3, r4]; try rfl) rfl ?_
      refine ⟨?_, HB9⟩
      show _ = Ending.returned (.agg #[.int .i64 (max 0 (j.f - 1)), .int .i64 (max 0 (j.t - 1)), .int .i64 (j.e - d), .int .i64 j.r, .int .i64 j.k])
      rw [Int.max_eq_left (by omega : j.f - 1 ≤ (0 : Int)), Int.max_eq_left (by omega : j.t - 1 ≤ (0 : Int))]
def RowIOut (l : List Int) (w : World) (e : Ending) (w' : World) : Prop := Below w.heap.size w w' ∧ ∃ v, e = .returned v ∧ w'.ownsRow w.heap.size 3 1 v l.length (intsV l)
theorem intsV_snoc (l : List Int) (k : Nat) (h : k < l.length) : intsV (l.take (k + 1)) = intsV (l.take k) ++ [.int .i64 (l.getD k 0)] := by
  unfold intsV
  rw [List.take_add_one, List.map_append, List.getElem?_eq_getElem h, List.getD_eq_getElem?_getD, List.getElem?_eq_getElem h]
  rfl
set_option maxRecDepth 100000 in
set_option maxHeartbeats 4000000 in
theorem mapI_any (l : List Int) (o : Option Addr) (c : Nat) (w : World) (hs : Ints w o l) (hn : l.length ≤ 1000) : Calls Try.prog 44 #[.slice o l.length c, .func (.func 43) #[] #[]] w (RowIOut l w) := by
  have HS := Lib.hid hs
  clear hs
  have hmk := run_make0 (P := Try.prog) 23 3 (.int .i64 0) 1 8 Try.underlying23 (by kernel_rfl) l.length (by omega) (by omega)
  have HR0 := Lib.hid (made0_row (w := w) (e := 3) (z := .int .i64 0) (n := l.length) (size := 1) (base := w.heap.size) (Nat.le_refl _) (by omega) (size_madeCells _ _))
  obtain ⟨cs, hcs⟩ : ∃ c, madeCells (Value.int .i64 0).cells (l.length * 1) = c := ⟨_, rfl⟩
  rw [hcs] at hmk HR0
  clear hcs
  go_enter Try.func44, Try.ntmps44
  go_wp2_with fail
  clear hmk
  go_loopw [5, 13] (fun v i wr => ∃ k : Nat, k ≤ l.length ∧ i = .int .i64 k ∧ Below w.heap.size w wr ∧ wr.ownsRow w.heap.size 3 1 v (l.take k).length (intsV (l.take k))) (fun _ i _ => l.length - (intOf i).toNat)
  case atStart => exact ⟨0, Nat.zero_le _, rfl, below_alloc (Below.refl _ _) _, HR0.out⟩
  case round =>
    obtain ⟨k, hk, rfl, hb, hrow⟩ := hrel
    obtain ⟨wA, rfl⟩ : ∃ wA : World, wA = wr := ⟨_, rfl⟩
    clear HR0
    have HB := Lib.hid hb
    have HR := Lib.hid hrow
    clear hb hrow
    by_cases hlt : k < l.length
    · obtain ⟨b, off, rfl, c0⟩ := (HS.out.later HB.out) _ hlt
      have HPT := Lib.hid (intsV_snoc l k hlt)
      have hpl : (l.take k).length ≤ 1000 := by rw [List.length_take]; omega
      have HLL := Lib.hid (show (l.take (k + 1)).length = (l.take k).length + 1 by rw [List.length_take, List.length_take]; omega)
      obtain ⟨x, hx⟩ : ∃ x, l.getD k 0 = x := ⟨_, rfl⟩
      rw [hx] at c0 HPT
      clear hx
      have HSA := Lib.hid (same_any (k : Nat) x wA)
      have y1 : (0 : Int) ≤ (k : Int) := by omega
      have y2 : (k : Int) < (l.length : Int) := by omega
      have hsz := HB.out.size
      have HN1 := Lib.hid (show (l.take k).length + 1 ≤ 1000000000 by omega)
      go_wp2_with fail
      refine HSA.out.mono ?_
      rintro _ _ ⟨rfl, rfl⟩
      go_wp2_with (at_builtin; refine wp_append1O (news := [.int .i64 x]) elemI HR.out hsz HN1.out (by decide) rfl (oneI _) rfl _ _ rfl rfl rfl rfl ?_)
      intro v2 w4 hr2 hgr _
      have HB4 := Lib.hid ((below_alloc HB.out (.cells #[.int .i64 x] 3)).grown hgr (by rw [World.size_alloc]; omega) (fun b e => (HR.out.lt b e).1))
      have HR4 : Hid (w4.ownsRow w.heap.size 3 1 v2 (l.take (k + 1)).length (intsV (l.take (k + 1)))) := Lib.hid (by
        rw [HLL.out]
        exact ownsRow_cast hr2 (by first | rfl | (rw [List.length_take]; omega) | rw [List.length_take]) HPT.out.symm)
      clear hr2 hgr
      go_wp2
      go_round
      case rel => exact ⟨k + 1, hlt, by go_num, HB4.out, HR4.out⟩
      case measure => exact meas_lt hlt
    · obtain rfl : k = l.length := by omega
      rw [List.take_length] at HR
      go_wp2
      go_ret
      exact ⟨HB.out, _, rfl, HR.out⟩
theorem flatJ_takeS (J : List Jb) (D : List Int) (k : Nat) (h : k < J.length) : flatJ ((advL J D).take (k + 1)) = flatJ ((advL J D).take k) ++ [.int .i64 (advJ (getJ J k) (D.getD k 0)).f, .int .i64 (advJ (getJ J k) (D.getD k 0)).t, .int .i64 (advJ (getJ J k) (D.getD k 0)).e, .int .i64 (advJ (getJ J k) (D.getD k 0)).r, .int .i64 (advJ (getJ J k) (D.getD k 0)).k] := by
  rw [advL_take h, flatJ_snoc]
set_option maxRecDepth 100000 in
set_option maxHeartbeats 4000000 in
theorem mapJ_any (J : List Jb) (D : List Int) (oj od : Option Addr) (cj cd q : Nat) (w : World) (hj : JobsM w oj J) (hq : w.cell? ⟨q, 0, none⟩ = some (.slice od D.length cd)) (hd : Ints w od D) (hl : D.length = J.length) (hn : J.length ≤ 1000) (hsm : ∀ i, i < J.length → SmJ (getJ J i) (D.getD i 0)) : Calls Try.prog 41 #[.slice oj J.length cj, .func (.func 42) #[] #[.pointer (some ⟨q, 0, none⟩)]] w (RowJOut (advL J D) w) := by
  have HJ := Lib.hid hj
  have HQ := Lib.hid hq
  have HD := Lib.hid hd
  have HL := Lib.hid hl
  have HSM := Lib.hid hsm
  clear hj hq hd hl hsm
  have hmk := run_make0 (P := Try.prog) 22 27 (.agg #[.int .i64 0, .int .i64 0, .int .i64 0, .int .i64 0, .int .i64 0]) 5 40 Try.underlying22 (by kernel_rfl) J.length (by omega) (by omega)
  have HR0 := Lib.hid (made0_row (w := w) (e := 27) (z := .agg #[.int .i64 0, .int .i64 0, .int .i64 0, .int .i64 0, .int .i64 0]) (n := J.length) (size := 5) (base := w.heap.size) (Nat.le_refl _) (by omega) (size_madeCells _ _))
  obtain ⟨cs, hcs⟩ : ∃ c, madeCells (Value.agg #[.int .i64 0, .int .i64 0, .int .i64 0, .int .i64 0, .int .i64 0]).cells (J.length * 5) = c := ⟨_, rfl⟩
  rw [hcs] at hmk HR0
  clear hcs
  obtain ⟨A, hA⟩ : ∃ A, advL J D = A := ⟨_, rfl⟩
  have HAT := Lib.hid (fun k (hk : k < J.length) => flatJ_takeS J D k hk)
  have HAL := Lib.hid (advL_len J D)
  rw [hA] at HAT HAL
  rw [hA]
  clear hA
  go_enter Try.func41, Try.ntmps41
  go_wp2_with fail
  clear hmk
  go_loopw [5, 13] (fun v i wr => ∃ k : Nat, k ≤ J.length ∧ i = .int .i64 k ∧ Below w.heap.size w wr ∧ wr.ownsRow w.heap.size 27 5 v (A.take k).length (flatJ (A.take k))) (fun _ i _ => J.length - (intOf i).toNat)
  case atStart => exact ⟨0, Nat.zero_le _, rfl, below_alloc (Below.refl _ _) _, HR0.out⟩
  case round =>
    obtain ⟨k, hk, rfl, hb, hrow⟩ := hrel
    obtain ⟨wA, rfl⟩ : ∃ wA : World, wA = wr := ⟨_, rfl⟩
    clear HR0
    have HB := Lib.hid hb
    have HR := Lib.hid hrow
    clear hb hrow
    by_cases hlt : k < J.length
    · obtain ⟨b, off, rfl, c0, c1, c2, c3, c4⟩ := (HJ.out.later HB.out) _ hlt
      have HPT := Lib.hid (HAT.out k hlt)
      have hpl : (A.take k).length ≤ 1000 := by rw [List.length_take]; omega
      have HLL := Lib.hid (show (A.take (k + 1)).length = (A.take k).length + 1 by rw [List.length_take, List.length_take, HAL.out]; omega)
      have hba : Below wA.heap.size wA (wA.alloc (.cells (jobC (getJ J k)) 27)) := below_alloc (Below.refl _ _) _
      have HBA := Lib.hid (below_step HB.out hba)
      have HCA := Lib.hid (adv1_any (getJ J k) k D q od cd (wA.alloc (.cells (jobC (getJ J k)) 27)) (cell_kept HBA.out HQ.out) (HD.out.later HBA.out) (by rw [HL.out]; exact hlt) (HSM.out k hlt))
      obtain ⟨y, hy⟩ : ∃ y, advJ (getJ J k) (D.getD k 0) = y := ⟨_, rfl⟩
      rw [hy] at HCA HPT
      obtain ⟨x, hx⟩ : ∃ x, getJ J k = x := ⟨_, rfl⟩
      rw [hx] at c0 c1 c2 c3 c4 HCA hba HBA
      have HRA := Lib.hid (ownsRow_later HR.out hba)
      clear hx hy hba
      have y1 : (0 : Int) ≤ (k : Int) := by omega
      have y2 : (k : Int) < (J.length : Int) := by omega
      have HN1 := Lib.hid (show (A.take k).length + 1 ≤ 1000000000 by omega)
      go_wp2_with fail
      refine HCA.out.mono ?_
      rintro _ w3 ⟨rfl, hb3⟩
      have HB3 := Lib.hid (below_step HBA.out hb3)
      have HR3 := Lib.hid (ownsRow_later HRA.out hb3)
      have hsz := HB3.out.size
      clear hb3 HCA HRA
      go_wp2_with (at_builtin; refine wp_append1O (news := [.int .i64 y.f, .int .i64 y.t, .int .i64 y.e, .int .i64 y.r, .int .i64 y.k]) elemJ HR3.out hsz HN1.out (by decide) rfl (oneJ y) rfl _ _ rfl rfl rfl rfl ?_)
      intro v2 w4 hr2 hgr _
      have HB4 := Lib.hid ((below_alloc HB3.out (.cells (jobC y) 27)).grown hgr (by rw [World.size_alloc]; omega) (fun b e => (HR3.out.lt b e).1))
      have HR4 : Hid (w4.ownsRow w.heap.size 27 5 v2 (A.take (k + 1)).length (flatJ (A.take (k + 1)))) := Lib.hid (by
        rw [HLL.out]
        exact ownsRow_cast hr2 (by first | rfl | (rw [List.length_take]; omega) | rw [List.length_take]) HPT.out.symm)
      clear hr2 hgr
      go_wp2
      go_round
      case rel => exact ⟨k + 1, hlt, by go_num, HB4.out, HR4.out⟩
      case measure => exact meas_lt hlt
    · obtain rfl : k = J.length := by omega
      rw [List.take_of_length_le (by rw [HAL.out]; exact Nat.le_refl _)] at HR
      go_wp2
      go_ret
      exact ⟨HB.out, _, rfl, HR.out⟩
end Go.Proofs.Ythgkfdhkmkbioaa
