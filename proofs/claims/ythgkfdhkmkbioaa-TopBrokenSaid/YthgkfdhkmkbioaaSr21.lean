/- Package replan: the order of ranks. -/
import Derived.Test.YthgkfdhkmkbioaaSq21
import Derived.Deep.Onto
namespace Go.Proofs.Ythgkfdhkmkbioaa
open Go.RowKit Go.Shelf
attribute [local go_sem] Oper.semAt_some

def rankJ (J : List Jb) (a : Int) : Int := (getJ J a.toNat).k
def lexJ (J : List Jb) (a b : Int) : Int := orI (cmpI (rankJ J a) (rankJ J b)) (cmpI a b)
theorem rank_any (J : List Jb) (oj : Option Addr) (cj JP i : Nat) (w : World) (hj : JobsM w oj J) (hc : w.cell? ⟨JP, 0, none⟩ = some (.slice oj J.length cj)) (hi : i < J.length) (_hn : J.length ≤ 1000) : Calls Try.prog 48 #[.int .i64 (i : Nat), .pointer (some ⟨JP, 0, none⟩)] w (Ret (.int .i64 (rankJ J (i : Nat))) w) := by
  obtain ⟨b, off, rfl, c0, c1, c2, c3, c4⟩ := hj i hi
  rw [show getJ J i = getJ J ((i : Int)).toNat by rw [Int.toNat_natCast], show (getJ J ((i : Int)).toNat).k = rankJ J (i : Nat) from rfl] at c4
  obtain ⟨x, hx⟩ : ∃ x, rankJ J (i : Nat) = x := ⟨_, rfl⟩
  rw [hx] at c4 ⊢
  clear hx c0 c1 c2 c3 hj
  have y1 : (0 : Int) ≤ (i : Int) := by omega
  have y2 : (i : Int) < (J.length : Int) := by omega
  go_enter Try.func48, Try.ntmps48
  go_wp2
  go_ret
  exact ⟨rfl, Below.refl _ _⟩
theorem self_any (x : Int) (w : World) : Calls Try.prog 49 #[.int .i64 x] w (Ret (.int .i64 x) w) := by
  go_enter Try.func49, Try.ntmps49
  go_wp2
  go_ret
  exact ⟨rfl, Below.refl _ _⟩
/-- What the comparing function reads. -/
structure CmpX (w : World) (J : List Jb) (oj : Option Addr) (cj JP b4 b5 : Nat) : Prop where
  jobs : JobsM w oj J
  jp : Blk w JP 22 #[.slice oj J.length cj]
  f4 : Blk w b4 50 #[.func (.func 48) #[] #[.pointer (some ⟨JP, 0, none⟩)]]
  f5 : Blk w b5 50 #[.func (.func 49) #[] #[]]
theorem CmpX.later {w w' : World} {J : List Jb} {oj : Option Addr} {cj JP b4 b5 : Nat} (h : CmpX w J oj cj JP b4 b5) (hb : Below w.heap.size w w') : CmpX w' J oj cj JP b4 b5 :=
  ⟨h.jobs.later hb, h.jp.later hb, h.f4.later hb, h.f5.later hb⟩
set_option maxRecDepth 100000 in
set_option maxHeartbeats 4000000 in
theorem cmp_any (J : List Jb) (oj : Option Addr) (cj JP b4 b5 x y : Nat) (w : World) (h : CmpX w J oj cj JP b4 b5) (hx : x < J.length) (hy : y < J.length) (hn : J.length ≤ 1000) : Calls Try.prog 68 #[.int .i64 (x : Nat), .int .i64 (y : Nat), .pointer (some ⟨b4, 0, none⟩), .pointer (some ⟨b5, 0, none⟩)] w (Ret (.int .i64 (lexJ J (x : Nat) (y : Nat))) w) := by
  have HX := Lib.hid h
  have HRX := Lib.hid (fun (w' : World) (hb : Below w.heap.size w w') => rank_any J oj cj JP x w' (h.jobs.later hb) ((h.jp.later hb).cell 0) hx hn)
  have HRY := Lib.hid (fun (w' : World) (hb : Below w.heap.size w w') => rank_any J oj cj JP y w' (h.jobs.later hb) ((h.jp.later hb).cell 0) hy hn)
  have HLX := Lib.hid (show lexJ J (x : Nat) (y : Nat) = orI (cmpI (rankJ J (x : Nat)) (rankJ J (y : Nat))) (cmpI ((x : Nat) : Int) ((y : Nat) : Int)) from rfl)
  clear h
  obtain ⟨rx, hrx⟩ : ∃ r, rankJ J (x : Nat) = r := ⟨_, rfl⟩
  obtain ⟨ry, hry⟩ : ∃ r, rankJ J (y : Nat) = r := ⟨_, rfl⟩
  rw [hrx] at HRX HLX
  rw [hry] at HRY HLX
  clear hrx hry
  go_enter Try.func68, Try.ntmps68
  go_wp2_with fail
  refine wp_region_ph [14, 15] mixed (by kernel_rfl) ?_
  refine wpP_cons ?_
  simp only [List.take_succ_cons, List.take_zero, List.drop_zero]
  intro KR hR
  have HR := Lib.hid hR
  clear hR
  have HCC := Lib.hid (show ∀ w'', Below w.drew.heap.size w.drew w'' → w''.cell? ⟨b4, 0, none⟩ = some (.func (.func 48) #[] #[.pointer (some ⟨JP, 0, none⟩)]) ∧ w''.cell? ⟨b5, 0, none⟩ = some (.func (.func 49) #[] #[]) from fun w'' hw0 => by have hw := below_undrew hw0; exact ⟨(HX.out.later hw).f4.cell 0, (HX.out.later hw).f5.cell 0⟩)
  apply wpB_val rfl
  · (intro w' hw'; obtain ⟨c0, c1⟩ := HCC.out w' hw'; go_simp; with_reducible rfl)
  simp only [Act.put, List.setIfInBounds_toArray, List.set_cons_zero, List.set_cons_succ]
  apply wpB_val rfl
  · (intro w' hw'; go_simp; with_reducible rfl)
  simp only [Act.put, List.setIfInBounds_toArray, List.set_cons_zero, List.set_cons_succ]
  apply wpB_call 48 #[.int .i64 (x : Nat), .pointer (some ⟨JP, 0, none⟩)] rfl (v := .int .i64 rx)
  · (intro w'; go_simp)
  · exact fun w' hw' => HRX.out w' (below_undrew hw')
  simp only [Act.put, List.setIfInBounds_toArray, List.set_cons_zero, List.set_cons_succ]
  apply wpB_val rfl
  · (intro w' hw'; obtain ⟨c0, c1⟩ := HCC.out w' hw'; go_simp; with_reducible rfl)
  simp only [Act.put, List.setIfInBounds_toArray, List.set_cons_zero, List.set_cons_succ]
  apply wpB_val rfl
  · (intro w' hw'; go_simp; with_reducible rfl)
  simp only [Act.put, List.setIfInBounds_toArray, List.set_cons_zero, List.set_cons_succ]
  apply wpB_call 48 #[.int .i64 (y : Nat), .pointer (some ⟨JP, 0, none⟩)] rfl (v := .int .i64 ry)
  · (intro w'; go_simp)
  · exact fun w' hw' => HRY.out w' (below_undrew hw')
  simp only [Act.put, List.setIfInBounds_toArray, List.set_cons_zero, List.set_cons_succ]
  apply wpB_call 70 #[.int .i64 rx, .int .i64 ry] rfl (v := .int .i64 (cmpI rx ry))
  · (intro w'; go_simp)
  · exact fun w' hw' => ((compare_any rx ry w').mono (by rintro e w2 ⟨rfl, rfl⟩; exact Ret.same))
  simp only [Act.put, List.setIfInBounds_toArray, List.set_cons_zero, List.set_cons_succ]
  apply wpB_val rfl
  · (intro w' hw'; obtain ⟨c0, c1⟩ := HCC.out w' hw'; go_simp; with_reducible rfl)
  simp only [Act.put, List.setIfInBounds_toArray, List.set_cons_zero, List.set_cons_succ]
  apply wpB_val rfl
  · (intro w' hw'; go_simp; with_reducible rfl)
  simp only [Act.put, List.setIfInBounds_toArray, List.set_cons_zero, List.set_cons_succ]
  apply wpB_call 49 #[.int .i64 (x : Nat)] rfl (v := .int .i64 (x : Nat))
  · (intro w'; go_simp)
  · exact fun w' hw' => self_any (x : Nat) w'
  simp only [Act.put, List.setIfInBounds_toArray, List.set_cons_zero, List.set_cons_succ]
  apply wpB_val rfl
  · (intro w' hw'; obtain ⟨c0, c1⟩ := HCC.out w' hw'; go_simp; with_reducible rfl)
  simp only [Act.put, List.setIfInBounds_toArray, List.set_cons_zero, List.set_cons_succ]
  apply wpB_val rfl
  · (intro w' hw'; go_simp; with_reducible rfl)
  simp only [Act.put, List.setIfInBounds_toArray, List.set_cons_zero, List.set_cons_succ]
  apply wpB_call 49 #[.int .i64 (y : Nat)] rfl (v := .int .i64 (y : Nat))
  · (intro w'; go_simp)
  · exact fun w' hw' => self_any (y : Nat) w'
  simp only [Act.put, List.setIfInBounds_toArray, List.set_cons_zero, List.set_cons_succ]
  apply wpB_call 70 #[.int .i64 (x : Nat), .int .i64 (y : Nat)] rfl (v := .int .i64 (cmpI (x : Nat) (y : Nat)))
  · (intro w'; go_simp)
  · exact fun w' hw' => ((compare_any (x : Nat) (y : Nat) w').mono (by rintro e w2 ⟨rfl, rfl⟩; exact Ret.same))
  simp only [Act.put, List.setIfInBounds_toArray, List.set_cons_zero, List.set_cons_succ]
  refine wpB_nil (HR.out _ (fun w2 hw2 => ?_))
  clear HR HCC
  replace hw2 := below_undrew hw2
  refine ⟨_, rfl, rfl, stepC_val (v := .slice (some ⟨w2.heap.size, 0, none⟩) 2 2) (w' := w2.alloc (.cells #[.int .i64 (cmpI rx ry), .int .i64 (cmpI (x : Nat) (y : Nat))] 3)) (by go_simp) ?_⟩
  simp only [Act.put, List.setIfInBounds_toArray, List.set_cons_zero, List.set_cons_succ]
  refine wpP_cons ?_
  simp only [List.take_succ_cons, List.take_zero, List.drop_succ_cons, List.drop_zero]
  intro KR hR
  have HR := Lib.hid hR
  clear hR
  refine wpB_nil (HR.out _ (fun w3 hw3 => ?_))
  clear HR
  have HB3 := Lib.hid (below_step (below_alloc hw2 (.cells #[.int .i64 (cmpI rx ry), .int .i64 (cmpI (x : Nat) (y : Nat))] 3)) hw3)
  have HOR := Lib.hid (or2_any w2.heap.size (cmpI rx ry) (cmpI (x : Nat) (y : Nat)) w3 ((Blk.new w2 3 #[.int .i64 (cmpI rx ry), .int .i64 (cmpI (x : Nat) (y : Nat))]).later hw3))
  refine ⟨_, rfl, rfl, ?_⟩
  refine stepC_call (f := 69) (args := #[.slice (some ⟨w2.heap.size, 0, none⟩) 2 2]) (w' := w3) (by go_simp) ?_
  refine HOR.out.mono ?_
  rintro _ _ ⟨rfl, rfl⟩
  refine ⟨_, rfl, ?_⟩
  simp only [Act.put, List.setIfInBounds_toArray, List.set_cons_zero, List.set_cons_succ]
  refine wpP_nil ?_
  simp only [List.drop_succ_cons, List.drop_zero]
  intro KR hR
  have HR := Lib.hid hR
  clear hR
  apply wpB_val rfl
  · (intro w' hw'; go_simp; with_reducible rfl)
  simp only [Act.put, List.setIfInBounds_toArray, List.set_cons_zero, List.set_cons_succ]
  refine wpB_nil (HR.out _ (fun w4 hw4 => ?_))
  clear HR
  have HB9 := Lib.hid (below_step HB3.out hw4)
  clear hw2 hw3 hw4 HOR
  go_wp2
  go_ret
  exact ⟨by rw [HLX.out]; rfl, HB9.out⟩
/-- The comparing function, in all later worlds. -/
def CmpAll (cf : Int → Int → Int) (b4 b5 B : Nat) (w : World) (l : List Int) : Prop := ∀ W, Below B w W → ∀ x y, x ∈ l → y ∈ l → Calls Try.prog 68 #[.int .i64 x, .int .i64 y, .pointer (some ⟨b4, 0, none⟩), .pointer (some ⟨b5, 0, none⟩)] W (Ret (.int .i64 (cf x y)) W)
def StableOut (cf : Int → Int → Int) (v : Value) (n B : Nat) (l : List Int) (w : World) (e : Ending) (w' : World) : Prop := e = .returned (.tuple #[]) ∧ Below B w w' ∧ w'.ownsRow B 3 1 v n (intsV (insS (ltC cf) l n))
theorem insNone_any (o : Option Addr) (cap : Nat) (f : Value) (w : World) : Calls Try.prog 81 #[.slice o 0 cap, .int .i64 0, .int .i64 0, f] w (fun e w' => e = .returned (.tuple #[]) ∧ w = w') := by
  go_enter Try.func81, Try.ntmps81
  go_wp2_with fail
  refine wp_loop_rounds 1 ?_
  rw [rounds_succ]
  go_wp2
  go_end0
  exact ⟨rfl, rfl⟩
theorem insV_any (cf : Int → Int → Int) (b4 b5 B n : Nat) (v : Value) (l : List Int) (hl : l.length = n) (hn : n ≤ 12) (w : World) (hcmp : CmpAll cf b4 b5 B w l) (hr : w.ownsRow B 3 1 v n (intsV l)) (hB : B ≤ w.heap.size) : Calls Try.prog 81 #[v, .int .i64 0, .int .i64 (n : Nat), .func (.func 68) #[] #[.pointer (some ⟨b4, 0, none⟩), .pointer (some ⟨b5, 0, none⟩)]] w (StableOut cf v n B l w) := by
  by_cases h0 : n = 0
  · subst h0
    obtain ⟨o, c, rfl, _⟩ := ownsRow_shapeQ hr
    exact (insNone_any o c _ w).mono fun e w' h => ⟨h.1, by rw [h.2]; exact Below.refl _ _, by rw [← h.2]; exact hr⟩
  · rcases hr.2 with ⟨_, h1⟩ | ⟨g, cap, cur, rfl, _⟩
    · exact absurd h1 h0
    · exact insCmp_any cf b4 b5 n cap g B l hl (by omega) w hcmp hr hB
set_option maxRecDepth 100000 in
set_option maxHeartbeats 4000000 in
theorem stable_any (cf : Int → Int → Int) (b4 b5 B n : Nat) (v : Value) (l : List Int) (hl : l.length = n) (hn : n ≤ 12) (w : World) (hcmp : CmpAll cf b4 b5 B w l) (hr : w.ownsRow B 3 1 v n (intsV l)) (hB : B ≤ w.heap.size) : Calls Try.prog 79 #[v, .int .i64 (n : Nat), .func (.func 68) #[] #[.pointer (some ⟨b4, 0, none⟩), .pointer (some ⟨b5, 0, none⟩)]] w (StableOut cf v n B l w) := by
  have HS := Lib.hid (insV_any cf b4 b5 B n v l hl hn w hcmp hr hB)
  clear hcmp hr
  have y1 : decide ((20 : Int) ≤ (n : Int)) = false := decide_eq_false (by omega)
  have y2 : decide (20 ≤ n) = false := decide_eq_false (by omega)
  have y3 : decide ((20 : Int) < (n : Int)) = false := decide_eq_false (by omega)
  have y4 : decide (20 < n) = false := decide_eq_false (by omega)
  go_enter Try.func79, Try.ntmps79
  go_wp2_with fail
  refine wp_loop_rounds 1 ?_
  rw [rounds_succ]
  go_wp2_with fail
  refine HS.out.mono ?_
  rintro _ w2 ⟨rfl, h1, h2⟩
  have H1 := Lib.hid h1
  have H2 := Lib.hid h2
  clear h1 h2
  go_wp2_with fail
  refine wp_loop_rounds 1 ?_
  rw [rounds_succ]
  go_wp2
  go_end0
  exact ⟨rfl, H1.out, H2.out⟩
theorem sortStable_any (cf : Int → Int → Int) (b4 b5 B n : Nat) (o : Option Addr) (cap : Nat) (l : List Int) (hl : l.length = n) (hn : n ≤ 12) (w : World) (hcmp : CmpAll cf b4 b5 B w l) (hr : w.ownsRow B 3 1 (.slice o n cap) n (intsV l)) (hB : B ≤ w.heap.size) : Calls Try.prog 67 #[.slice o n cap, .func (.func 68) #[] #[.pointer (some ⟨b4, 0, none⟩), .pointer (some ⟨b5, 0, none⟩)]] w (StableOut cf (.slice o n cap) n B l w) := by
  have HS := Lib.hid (stable_any cf b4 b5 B n (.slice o n cap) l hl hn w hcmp hr hB)
  clear hcmp hr
  go_enter Try.func67, Try.ntmps67
  go_wp2_with fail
  refine HS.out.mono ?_
  rintro _ w2 ⟨rfl, h1, h2⟩
  have H1 := Lib.hid h1
  have H2 := Lib.hid h2
  clear h1 h2
  go_wp2
  go_end0
  exact ⟨rfl, H1.out, H2.out⟩
def OrdOut (l : List Int) (w : World) (e : Ending) (w' : World) : Prop := Below w.heap.size w w' ∧ ∃ v, e = .returned v ∧ w'.ownsRow w.heap.size 3 1 v l.length (intsV l)
set_option maxRecDepth 100000 in
set_option maxHeartbeats 4000000 in
theorem sorted_any (J : List Jb) (oj : Option Addr) (cj JP b off cap : Nat) (l : List Int) (w : World) (hj : JobsM w oj J) (hp : Blk w JP 22 #[.slice oj J.length cj]) (hn : J.length ≤ 12) (hl : l.length ≤ 12) (hlt : ∀ x ∈ l, ∃ i : Nat, x = (i : Nat) ∧ i < J.length) (hi : Ints w (some ⟨b, off, none⟩) l) :
    Calls Try.prog 47 #[.slice (some ⟨b, off, none⟩) l.length cap, .func (.func 48) #[] #[.pointer (some ⟨JP, 0, none⟩)], .func (.func 49) #[] #[]] w (OrdOut (insS (ltC (lexJ J)) l l.length) w) := by
  have HI := Lib.hid hi
  have HLT := Lib.hid hlt
  have HJ := Lib.hid hj
  have HP := Lib.hid hp
  clear hi hlt hj hp
  go_enter Try.func47, Try.ntmps47
  go_upto_region 1 with (fail)
  obtain ⟨W1, hW1⟩ : ∃ W, W = (w.alloc (.cells #[.func (.func 48) #[] #[.pointer (some ⟨JP, 0, none⟩)]] 50)).alloc (.cells #[.func (.func 49) #[] #[]] 50) := ⟨_, rfl⟩
  have hb1 : Below w.heap.size w W1 := by rw [hW1]; exact below_alloc (below_alloc (Below.refl _ _) _) _
  have HX1 : Hid (CmpX W1 J oj cj JP w.heap.size (w.heap.size + 1)) := Lib.hid ⟨HJ.out.later hb1, HP.out.later hb1, by rw [hW1]; exact (Blk.new ..).alloc _, by
    rw [hW1]
    have := Blk.new (w.alloc (.cells #[.func (.func 48) #[] #[.pointer (some ⟨JP, 0, none⟩)]] 50)) 50 #[.func (.func 49) #[] #[]]
    rwa [World.size_alloc] at this⟩
  have HB1 := Lib.hid hb1
  rw [← hW1]
  clear hW1 hb1
  have HCL := Lib.hid (clone_any b off cap l W1 (HI.out.later HB1.out) (by omega))
  go_wp2_with fail
  refine HCL.out.mono ?_
  rintro _ W2 ⟨hb2, v, rfl, hr⟩
  have HB2 := Lib.hid hb2
  obtain ⟨o, c, rfl, _⟩ := ownsRow_shapeQ hr
  have HST := Lib.hid (sortStable_any (lexJ J) w.heap.size (w.heap.size + 1) W1.heap.size l.length o c l rfl hl W2 (fun W hW x y hx hy => by
    obtain ⟨i, rfl, hi⟩ := HLT.out x hx
    obtain ⟨j, rfl, hj⟩ := HLT.out y hy
    exact cmp_any J oj cj JP w.heap.size (w.heap.size + 1) i j W (HX1.out.later (HB2.out.trans hW)) hi hj (by omega)) hr hb2.size)
  clear hb2 hr HCL
  go_wp2_with fail
  refine HST.out.mono ?_
  rintro _ W3 ⟨rfl, h1, h2⟩
  have HO : Hid (OrdOut (insS (ltC (lexJ J)) l l.length) w (.returned (.slice o l.length c)) W3) := Lib.hid ⟨HB1.out.trans ((HB2.out.trans h1).mono HB1.out.size), _, rfl, by rw [insS_len]; exact h2.mono HB1.out.size⟩
  clear h1 h2 HST
  go_wp2
  go_ret
  exact HO.out
def natsI (n : Nat) : List Int := natI (List.range n)
theorem natsI_len (n : Nat) : (natsI n).length = n := by simp [natsI, natI]
theorem natsI_get {n i : Nat} (h : i < n) : (natsI n).getD i 0 = (i : Nat) := by simp [natsI, natI, h]
/-- The jobs in the order of their ranks. -/
def ordJ (J : List Jb) : List Int := insS (ltC (lexJ J)) (natsI J.length) J.length
theorem ordJ_len (J : List Jb) : (ordJ J).length = J.length := by unfold ordJ; rw [insS_len, natsI_len]
theorem upto_set {n k : Nat} (f : List Int) (hf : f.length = n) (h : ∀ i, i < n → f.getD i 0 = if i < k then (i : Nat) else 0) (hk : k < n) : ∀ i, i < n → (f.set k ((k : Nat) : Int)).getD i 0 = if i < k + 1 then (i : Nat) else 0 := fun i hi => by
  by_cases e : i = k
  · subst e
    rw [getD_set_self (by omega), if_pos (by omega)]
  · rw [getD_set_ne (fun h => e h.symm), h i hi]
    by_cases e2 : i < k
    · rw [if_pos e2, if_pos (by omega)]
    · rw [if_neg e2, if_neg (by omega)]
theorem upto_all {n : Nat} {f : List Int} (hf : f.length = n) (h : ∀ i, i < n → f.getD i 0 = if i < n then (i : Nat) else 0) : f = natsI n := by
  apply List.ext_getElem
  · rw [hf, natsI_len]
  · intro i h1 h2
    have := h i (by omega)
    rw [if_pos (by omega), getD_at h1] at this
    rw [this]
    simp [natsI, natI]
set_option maxRecDepth 100000 in
set_option maxHeartbeats 4000000 in
theorem inOrder_any (J : List Jb) (oj : Option Addr) (cj : Nat) (w : World) (hj : JobsM w oj J) (hn : J.length ≤ 12) : Calls Try.prog 33 #[.slice oj J.length cj] w (OrdOut (ordJ J) w) := by
  have HJ := Lib.hid hj
  clear hj
  have hmk := run_makeN (P := Try.prog) 23 3 (.int .i64 0) 1 8 Try.underlying23 (by kernel_rfl) J.length (by omega) (by omega)
  rw [show (Value.int .i64 0).cells = #[.int .i64 0] from rfl, Nat.mul_one, made_intsN] at hmk
  go_enter Try.func33, Try.ntmps33
  go_upto_region 2 with (fail)
  obtain ⟨W1, hW1⟩ : ∃ W, W = (w.alloc (.cells #[.slice oj J.length cj] 22)).alloc (.cells (intsC (List.replicate J.length 0)) 3) := ⟨_, rfl⟩
  have hb1 : Below w.heap.size w W1 := by rw [hW1]; exact below_alloc (below_alloc (Below.refl _ _) _) _
  have HP1 := Lib.hid (show Blk W1 w.heap.size 22 #[.slice oj J.length cj] by rw [hW1]; exact (Blk.new ..).alloc _)
  have HA1 := Lib.hid (show Blk W1 (w.heap.size + 1) 3 (intsC (List.replicate J.length 0)) by
    rw [hW1]
    have := Blk.new (w.alloc (.cells #[.slice oj J.length cj] 22)) 3 (intsC (List.replicate J.length 0))
    rwa [World.size_alloc] at this)
  have HB1 := Lib.hid hb1
  rw [← hW1]
  clear hW1 hb1 hmk
  go_wp2_with fail
  go_loopw [10] (fun i wr => ∃ (k : Nat) (f : List Int), k ≤ J.length ∧ i = .int .i64 k ∧ f.length = J.length ∧ (∀ i, i < J.length → f.getD i 0 = if i < k then (i : Nat) else 0) ∧ Below w.heap.size w wr ∧ Blk wr w.heap.size 22 #[.slice oj J.length cj] ∧ Blk wr (w.heap.size + 1) 3 (intsC f)) (fun i _ => J.length - (intOf i).toNat)
  case atStart => exact ⟨0, _, Nat.zero_le _, rfl, List.length_replicate .., fun i hi => by rw [if_neg (Nat.not_lt_zero _), List.getD_eq_getElem?_getD, List.getElem?_replicate]; split <;> rfl, HB1.out, HP1.out, HA1.out⟩
  case round =>
    obtain ⟨k, f, hk, rfl, hf, hv, hb, hp, ha⟩ := hrel
    obtain ⟨wA, rfl⟩ : ∃ wA : World, wA = wr := ⟨_, rfl⟩
    clear HB1 HP1 HA1
    have HB := Lib.hid hb
    have HP := Lib.hid hp
    have HA := Lib.hid ha
    have HF := Lib.hid hf
    have HV := Lib.hid hv
    clear hb hp ha hf hv
    by_cases hlt : k < J.length
    · have HF2 := Lib.hid (show (f.set k ((k : Nat) : Int)).length = J.length by rw [List.length_set]; exact HF.out)
      have HV2 := Lib.hid (upto_set f HF.out HV.out hlt)
      have HA2 := Lib.hid (show Blk (wA.setCell ⟨w.heap.size + 1, k, none⟩ (.int .i64 (k : Nat))) (w.heap.size + 1) 3 (intsC (f.set k ((k : Nat) : Int))) from by rw [← intsC_set]; exact HA.out.set k _)
      have HP2 := Lib.hid (HP.out.other (p := ⟨w.heap.size + 1, k, none⟩) (Nat.ne_of_lt (Nat.lt_succ_self _)) (.int .i64 (k : Nat)))
      have c0 : wA.cell? ⟨w.heap.size + 1, k, none⟩ = some (.int .i64 (f.getD k 0)) := (HA.out.cell k).trans (intsC_get (by rw [HF.out]; exact hlt))
      have f0 := HA.out.frozen k
      have y1 : (0 : Int) ≤ (k : Int) := by omega
      have y2 : (k : Int) < (J.length : Int) := by omega
      go_wp2
      exact ⟨⟨k + 1, _, hlt, by go_num, HF2.out, HV2.out, HB.out.setCell (Nat.le_succ _) _, HP2.out, HA2.out⟩, meas_lt hlt⟩
    · obtain rfl : k = J.length := by omega
      have hfe := upto_all HF.out HV.out
      have HI := Lib.hid (show Ints wA (some ⟨w.heap.size + 1, 0, none⟩) (natsI J.length) by rw [← hfe]; exact HA.out.ints)
      clear hfe
      have HSO := Lib.hid (sorted_any J oj cj w.heap.size (w.heap.size + 1) 0 J.length (natsI J.length) wA (HJ.out.later HB.out) HP.out hn (by rw [natsI_len]; exact hn) (fun x hx => by
        obtain ⟨i, hi, rfl⟩ := List.mem_map.1 hx
        exact ⟨i, rfl, List.mem_range.1 hi⟩) HI.out)
      rw [natsI_len] at HSO
      go_wp2_with fail
      refine HSO.out.mono ?_
      rintro _ W3 ⟨hb3, v, rfl, hr⟩
      have HO : Hid (OrdOut (ordJ J) w (.returned v) W3) := Lib.hid ⟨below_step HB.out hb3, v, rfl, hr.mono HB.out.size⟩
      clear hb3 hr HSO
      go_wp2
      go_ret
      exact HO.out
end Go.Proofs.Ythgkfdhkmkbioaa
