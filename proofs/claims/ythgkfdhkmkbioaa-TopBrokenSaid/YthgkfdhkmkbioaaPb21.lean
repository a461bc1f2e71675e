/- Package plan: slots, sum, chosen, table. -/
import Derived.Test.YthgkfdhkmkbioaaPa21
namespace Go.Proofs.Ythgkfdhkmkbioaa
open Go.RowKit Go.Shelf
attribute [local go_sem] Oper.semAt_some

/-! ### The slots of a job -/
abbrev SlT (F T : Nat) := { t : Nat // F ≤ t ∧ t < T }
@[reducible] def encT {F T : Nat} (x : SlT F T) : Array Value := #[.int .i64 ((x.1 : Nat) : Int)]
def KpQ (n₀ q : Nat) (W W' : World) : Prop := Below n₀ W W' ∧ W'.heap[q]? = W.heap[q]?
theorem KpQ.trans {n₀ q : Nat} {A B C : World} (h : KpQ n₀ q A B) (k : KpQ n₀ q B C) : KpQ n₀ q A C := ⟨h.1.trans k.1, k.2.trans h.2⟩
def TDone {F T : Nat} (xs : List (SlT F T)) : Prop := xs.map (·.1) = List.range' F (T - F)
@[reducible] def boxC (F T : Nat) (e r k : Int) : Array Value := #[.int .i64 (F : Nat), .int .i64 (T : Nat), .int .i64 e, .int .i64 r, .int .i64 k]
structure TIt (w0 W wr : World) (q : Nat) (F T : Nat) (e r kk : Int) (k : Nat) (pre : List (SlT F T)) (J : List (SlT F T) → World → Prop) : Prop where
  p : pre.map (·.1) = List.range' F k
  j : J pre wr
  box : Blk wr q 27 (boxC F T e r kk)
  below : Below w0.heap.size w0 wr
  size : W.heap.size ≤ wr.heap.size
theorem range'_snoc (F k : Nat) : List.range' F (k + 1) = List.range' F k ++ [F + k] := by
  rw [List.range'_concat]; simp
theorem meas_t {F T k : Nat} (h : F + k < T) : T - (intOf (.int .i64 (((F + k : Nat) : Int) + 1))).toNat < T - (intOf (.int .i64 ((F + k : Nat) : Int))).toNat := by
  show T - (((F + k : Nat) : Int) + 1).toNat < T - (((F + k : Nat) : Int)).toNat
  omega
set_option maxRecDepth 100000 in
set_option maxHeartbeats 16000000 in
theorem slots1_in (n lp q : Nat) (w0 : World) (F T : Nat) (e r kk : Int) (hFT : F ≤ T) (hT : T ≤ 1000) (J Jx : List (SlT F T) → World → Prop)
    (hY : ∀ pre x W, J pre W → pre.length < T - F → YieldAt Fence.wide (n - 1) Try.prog lp (encT x) W fun e W' => (e = .returned (.bool true) ∧ J (pre ++ [x]) W' ∧ KpQ w0.heap.size q W W') ∨ (e = .returned (.bool false) ∧ Jx (pre ++ [x]) W'))
    (W : World) (hW : Below w0.heap.size w0 W) (hq : Blk W q 27 (boxC F T e r kk)) (h0 : J [] W) :
    CallsIn Fence.wide n Try.prog 35 #[.func (.yield lp) #[] #[], .pointer (some ⟨q, 0, none⟩)] W fun e W' => (∃ v, e = .returned v) ∧ ((∃ xs, TDone xs ∧ J xs W') ∨ (∃ pre, Jx pre W')) := by
  have HS0 : Hid (TIt w0 W W q F T e r kk 0 [] J) := Lib.hid ⟨rfl, h0, hq, hW, Nat.le_refl _⟩
  have HY := Lib.hid hY
  have c0 : W.cell? ⟨q, 0, none⟩ = some (.int .i64 (F : Nat)) := hq.cell 0
  clear hY hq h0 hW
  refine callsIn_of_wp Try.func35 rfl trivial ?_ rfl
  simp only [Try.ntmps35, List.size_toArray, List.length_cons, List.length_nil, Nat.reduceAdd, Nat.reduceSub, Array.replicate_succ, Array.replicate_zero, List.push_toArray, List.append_toArray, List.nil_append, List.cons_append]
  gi_wp2_with fail
  clear c0
  gi_loopw [3] (fun i wr => ∃ (k : Nat) (pre : List (SlT F T)), F + k ≤ T ∧ i = .int .i64 ((F + k : Nat) : Int) ∧ TIt w0 W wr q F T e r kk k pre J) (fun i _ => T - (intOf i).toNat)
  case atStart => exact ⟨0, [], hFT, rfl, HS0.out⟩
  case round =>
    obtain ⟨k, pre, hk, rfl, hst⟩ := hrel
    obtain ⟨wA, rfl⟩ : ∃ wA : World, wA = wr := ⟨_, rfl⟩
    have HST := Lib.hid hst
    clear hst HS0
    have c1 : wA.cell? ⟨q, 1, none⟩ = some (.int .i64 (T : Nat)) := HST.out.box.cell 1
    by_cases hlt : F + k < T
    · have HPL : Hid (pre.length < T - F) := Lib.hid (by have := congrArg List.length HST.out.p; rw [List.length_map, List.length_range'] at this; omega)
      obtain ⟨fn, tmps, assign, body, hy, hR⟩ := HY.out pre ⟨F + k, ⟨Nat.le_add_right _ _, hlt⟩⟩ wA HST.out.j HPL.out
      dsimp only [encT] at hy
      have HRR := Lib.hid hR
      clear hR
      have HMS := Lib.hid (meas_t hlt)
      have HLT := Lib.hid hlt
      obtain ⟨M, hM⟩ : ∃ M, F + k = M := ⟨_, rfl⟩
      have HM := Lib.hid hM
      rw [hM] at hlt hk hy HMS ⊢
      clear hM
      have y1 : decide ((M : Int) < (T : Int)) = true := decide_eq_true (by omega)
      have y2 : decide (M < T) = true := decide_eq_true hlt
      have e1 : IntKind.i64.wrap ((M : Int) + 1) = (M : Int) + 1 := IntWalk.i64_in _ (by omega)
      gi_wp2
      refine ⟨fun hd => by simp [Fence.wide] at hd, HRR.out.mono ?_⟩
      rintro e' W7 (⟨rfl, hJ3, hk3⟩ | ⟨rfl, hJx3⟩)
      · have HS3 : Hid (TIt w0 W W7 q F T e r kk (k + 1) (pre ++ [⟨F + k, ⟨Nat.le_add_right _ _, HLT.out⟩⟩]) J) := Lib.hid ⟨by rw [List.map_append, HST.out.p, range'_snoc]; rfl, hJ3, hk3.2.trans HST.out.box, HST.out.below.trans hk3.1, Nat.le_trans HST.out.size hk3.1.size⟩
        clear hJ3 hk3 hy HRR c1
        gi_wp2
        go_roundw
        case rel => exact ⟨k + 1, _, by have := HLT.out; omega, by rw [← HM.out]; go_num, HS3.out⟩
        case measure => exact HMS.out
      · have HX3 := Lib.hid hJx3
        clear hJx3 hy HRR c1
        gi_wp2
        (try simp only [Exit.noGoto_ret])
        refine bodyPost_ret (results_none rfl _ _ _) rfl ?_
        exact ⟨⟨_, rfl⟩, .inr ⟨_, HX3.out⟩⟩
    · have hkT : F + k = T := by omega
      have HD : Hid (TDone pre) := Lib.hid (by have := HST.out.p; rw [show k = T - F by omega] at this; exact this)
      rw [hkT]
      clear hkT hlt hk
      gi_wp2
      (try simp only [Exit.noGoto_normal])
      go_end0
      exact ⟨⟨_, rfl⟩, .inl ⟨pre, HD.out, HST.out.j⟩⟩

/-! ### sum -/
set_option maxRecDepth 100000 in
set_option maxHeartbeats 4000000 in
theorem sum_any (o : Option Addr) (cap : Nat) (l : List Int) (w : World) (h : Ints w o l) (hl : l.length ≤ 1000) (hb : ∀ k, k ≤ l.length → -1000000000000 ≤ sumI (l.take k) ∧ sumI (l.take k) ≤ 1000000000000) : Calls Try.prog 19 #[.slice o l.length cap] w (Ret (.int .i64 (sumI l)) w) := by
  have HI := Lib.hid h
  have HBO := Lib.hid hb
  clear h hb
  go_enter Try.func19, Try.ntmps19
  go_wp2_with fail
  go_loop [3, 8] (fun a i => ∃ k : Nat, k ≤ l.length ∧ i = .int .i64 k ∧ a = .int .i64 (sumI (l.take k))) (fun _ i => l.length - (intOf i).toNat)
  case atStart => exact ⟨0, Nat.zero_le _, rfl, rfl⟩
  case round =>
    obtain ⟨k, hk, rfl, rfl⟩ := hrel
    by_cases hlt : k < l.length
    · obtain ⟨b, off, rfl, c0⟩ := HI.out k hlt
      have HS := Lib.hid (show sumI (l.take (k + 1)) = sumI (l.take k) + l.getD k 0 by
        rw [List.take_add_one, List.getElem?_eq_getElem hlt, sumI_append, List.getD_eq_getElem?_getD, List.getElem?_eq_getElem hlt]
        simp [sumI])
      have hb1 := HBO.out (k + 1) hlt
      rw [HS.out] at hb1
      obtain ⟨A, hA⟩ : ∃ A, sumI (l.take k) = A := ⟨_, rfl⟩
      obtain ⟨x, hx⟩ : ∃ x, l.getD k 0 = x := ⟨_, rfl⟩
      rw [hA, hx] at HS hb1
      rw [hx] at c0
      rw [hA]
      clear hA hx
      have y1 : (0 : Int) ≤ (k : Int) := by omega
      have y2 : (k : Int) < (l.length : Int) := by omega
      have e1 : IntKind.i64.wrap (A + x) = A + x := IntWalk.i64_in _ (by omega)
      go_wp2
      go_round
      case rel => exact ⟨k + 1, hlt, by go_num, by rw [HS.out]⟩
      case measure => exact meas_lt hlt
    · obtain rfl : k = l.length := by omega
      have HT := Lib.hid (show sumI (l.take l.length) = sumI l by rw [List.take_length])
      go_wp2
      go_ret
      exact ⟨by rw [← HT.out]; rfl, Below.refl _ _⟩
def chosenL (X : Nat → Bool) (n : Nat) : List Nat := (List.range n).filter X
theorem chosenL_succ (X : Nat → Bool) (n : Nat) : chosenL X (n + 1) = if X n = true then chosenL X n ++ [n] else chosenL X n := by
  unfold chosenL
  rw [List.range_succ, List.filter_append]
  by_cases h : X n = true
  · rw [if_pos h, List.filter_cons_of_pos h]; rfl
  · rw [if_neg h, List.filter_cons_of_neg h]; simp
theorem chosenL_le (X : Nat → Bool) (n : Nat) : (chosenL X n).length ≤ n := by
  unfold chosenL
  refine Nat.le_trans (List.length_filter_le _ _) ?_
  rw [List.length_range]
  exact Nat.le_refl _
set_option maxRecDepth 100000 in
set_option maxHeartbeats 4000000 in
theorem chosenJ_any (n N SB : Nat) (seen : List Bool)  (w : World) (hs : Blk w SB 4 (boolsC seen)) (hN : seen.length = N) (hn : 2 + n ≤ N) (h64 : N ≤ 64) : Calls Try.prog 22 #[.int .i64 (n : Nat), .slice (some ⟨SB, 0, none⟩) N N, .func (.func 17) #[] #[]] w (fun e w' => Below w.heap.size w w' ∧ ∃ v, e = .returned v ∧ w'.ownsRow w.heap.size 3 1 v (chosenL (fun i => seen.getD (2 + i) false) n).length (intsV (natI (chosenL (fun i => seen.getD (2 + i) false) n)))) := by
  have HS := Lib.hid hs
  clear hs
  obtain ⟨X, hX⟩ : ∃ X, X = fun i => seen.getD (2 + i) false := ⟨_, rfl⟩
  have HX := Lib.hid hX
  rw [← hX]
  clear hX
  go_enter Try.func22, Try.ntmps22
  go_wp2_with fail
  go_loopw [7, 10] (fun v i wr => ∃ k : Nat, k ≤ n ∧ i = .int .i64 k ∧ Below w.heap.size w wr ∧ wr.ownsRow w.heap.size 3 1 v (chosenL X k).length (intsV (natI (chosenL X k)))) (fun _ i _ => n - (intOf i).toNat)
  case atStart => exact ⟨0, Nat.zero_le _, rfl, Below.refl _ _, World.ownsRow_nil ..⟩
  case round =>
    obtain ⟨k, hk, rfl, hb, hrow⟩ := hrel
    obtain ⟨wA, rfl⟩ : ∃ wA : World, wA = wr := ⟨_, rfl⟩
    have HB := Lib.hid hb
    have HR := Lib.hid hrow
    clear hb hrow
    by_cases hlt : k < n
    · have HSU := Lib.hid (chosenL_succ X k)
      have hle := chosenL_le X k
      have HC := Lib.hid (jobNode_any (k : Int) (by omega) (by omega) wA)
      obtain ⟨M, hM⟩ : ∃ M : Nat, 2 + k = M := ⟨_, rfl⟩
      have cM : wA.cell? ⟨SB, M, none⟩ = some (.bool (X k)) := (cell_kept HB.out ((HS.out.cell M).trans (boolsC_get (by omega)))).trans (by rw [← hM, HX.out])
      rw [show (2 : Int) + (k : Int) = ((M : Nat) : Int) by omega] at HC
      have y1 : (0 : Int) ≤ (M : Int) := by omega
      have y2 : (M : Int) < (N : Int) := by omega
      clear hM
      cases hc : X k with
      | false =>
        rw [hc] at cM HSU
        rw [if_neg (by decide)] at HSU
        clear hc
        go_wp2_with fail
        refine HC.out.mono ?_
        rintro _ w2 ⟨rfl, rfl⟩
        go_wp2
        go_round
        case rel => exact ⟨k + 1, hlt, by go_num, HB.out, by rw [HSU.out]; exact HR.out⟩
        case measure => exact meas_lt hlt
      | true =>
        rw [hc] at cM HSU
        rw [if_pos rfl] at HSU
        clear hc
        have hsz := HB.out.size
        have HN1 := Lib.hid (show (chosenL X k).length + 1 ≤ 1000000000 by omega)
        go_wp2_with fail
        refine HC.out.mono ?_
        rintro _ w2 ⟨rfl, rfl⟩
        clear HC
        go_wp2_with (at_builtin; refine wp_append1O (news := [.int .i64 (k : Nat)]) elemI HR.out hsz HN1.out (by decide) rfl (oneI _) rfl _ _ rfl rfl rfl rfl ?_)
        intro v2 w4 hr2 hgr _
        have hba : Below wA.heap.size wA (wA.alloc (.cells #[.int .i64 (k : Nat)] 3)) := below_alloc (Below.refl _ _) _
        have HB4 := Lib.hid ((below_step HB.out hba).grown hgr (by rw [World.size_alloc]; omega) (fun b e => (HR.out.lt b e).1))
        have HR4 : Hid (w4.ownsRow w.heap.size 3 1 v2 (chosenL X (k + 1)).length (intsV (natI (chosenL X (k + 1))))) := Lib.hid (by
          rw [HSU.out, List.length_append]
          exact ownsRow_cast hr2 rfl (by simp [intsV, natI]))
        clear hr2 hgr hba
        go_wp2
        go_round
        case rel => exact ⟨k + 1, hlt, by go_num, HB4.out, HR4.out⟩
        case measure => exact meas_lt hlt
    · obtain rfl : k = n := by omega
      go_wp2
      go_ret
      exact ⟨HB.out, _, rfl, HR.out⟩
set_option maxRecDepth 100000 in
set_option maxHeartbeats 4000000 in
theorem chosenS_any (n N SB : Nat) (seen : List Bool) (b : Nat) (oj : Option Addr) (Jn jc : Nat) (hJn : Jn ≤ 1000) (w : World) (hbx : w.cell? ⟨b, 0, none⟩ = some (.slice oj Jn jc)) (hs : Blk w SB 4 (boolsC seen)) (hN : seen.length = N) (hn : 2 + Jn + n ≤ N) (h64 : N ≤ 64) : Calls Try.prog 22 #[.int .i64 (n : Nat), .slice (some ⟨SB, 0, none⟩) N N, .func (.func 18) #[] #[.pointer (some ⟨b, 0, none⟩)]] w (fun e w' => Below w.heap.size w w' ∧ ∃ v, e = .returned v ∧ w'.ownsRow w.heap.size 3 1 v (chosenL (fun i => seen.getD (2 + Jn + i) false) n).length (intsV (natI (chosenL (fun i => seen.getD (2 + Jn + i) false) n)))) := by
  have HS := Lib.hid hs
  have HBX := Lib.hid hbx
  clear hs hbx
  obtain ⟨X, hX⟩ : ∃ X, X = fun i => seen.getD (2 + Jn + i) false := ⟨_, rfl⟩
  have HX := Lib.hid hX
  rw [← hX]
  clear hX
  go_enter Try.func22, Try.ntmps22
  go_wp2_with fail
  go_loopw [7, 10] (fun v i wr => ∃ k : Nat, k ≤ n ∧ i = .int .i64 k ∧ Below w.heap.size w wr ∧ wr.ownsRow w.heap.size 3 1 v (chosenL X k).length (intsV (natI (chosenL X k)))) (fun _ i _ => n - (intOf i).toNat)
  case atStart => exact ⟨0, Nat.zero_le _, rfl, Below.refl _ _, World.ownsRow_nil ..⟩
  case round =>
    obtain ⟨k, hk, rfl, hb, hrow⟩ := hrel
    obtain ⟨wA, rfl⟩ : ∃ wA : World, wA = wr := ⟨_, rfl⟩
    have HB := Lib.hid hb
    have HR := Lib.hid hrow
    clear hb hrow
    by_cases hlt : k < n
    · have HSU := Lib.hid (chosenL_succ X k)
      have hle := chosenL_le X k
      have HC := Lib.hid (slotNode_any (k : Int) b oj Jn jc (by omega) (by omega) (by omega) wA (cell_kept HB.out HBX.out))
      obtain ⟨M, hM⟩ : ∃ M : Nat, 2 + Jn + k = M := ⟨_, rfl⟩
      have cM : wA.cell? ⟨SB, M, none⟩ = some (.bool (X k)) := (cell_kept HB.out ((HS.out.cell M).trans (boolsC_get (by omega)))).trans (by rw [← hM, HX.out])
      rw [show (2 : Int) + (Jn : Int) + (k : Int) = ((M : Nat) : Int) by omega] at HC
      have y1 : (0 : Int) ≤ (M : Int) := by omega
      have y2 : (M : Int) < (N : Int) := by omega
      clear hM
      cases hc : X k with
      | false =>
        rw [hc] at cM HSU
        rw [if_neg (by decide)] at HSU
        clear hc
        go_wp2_with fail
        refine HC.out.mono ?_
        rintro _ w2 ⟨rfl, rfl⟩
        go_wp2
        go_round
        case rel => exact ⟨k + 1, hlt, by go_num, HB.out, by rw [HSU.out]; exact HR.out⟩
        case measure => exact meas_lt hlt
      | true =>
        rw [hc] at cM HSU
        rw [if_pos rfl] at HSU
        clear hc
        have hsz := HB.out.size
        have HN1 := Lib.hid (show (chosenL X k).length + 1 ≤ 1000000000 by omega)
        go_wp2_with fail
        refine HC.out.mono ?_
        rintro _ w2 ⟨rfl, rfl⟩
        clear HC
        go_wp2_with (at_builtin; refine wp_append1O (news := [.int .i64 (k : Nat)]) elemI HR.out hsz HN1.out (by decide) rfl (oneI _) rfl _ _ rfl rfl rfl rfl ?_)
        intro v2 w4 hr2 hgr _
        have hba : Below wA.heap.size wA (wA.alloc (.cells #[.int .i64 (k : Nat)] 3)) := below_alloc (Below.refl _ _) _
        have HB4 := Lib.hid ((below_step HB.out hba).grown hgr (by rw [World.size_alloc]; omega) (fun b e => (HR.out.lt b e).1))
        have HR4 : Hid (w4.ownsRow w.heap.size 3 1 v2 (chosenL X (k + 1)).length (intsV (natI (chosenL X (k + 1))))) := Lib.hid (by
          rw [HSU.out, List.length_append]
          exact ownsRow_cast hr2 rfl (by simp [intsV, natI]))
        clear hr2 hgr hba
        go_wp2
        go_round
        case rel => exact ⟨k + 1, hlt, by go_num, HB4.out, HR4.out⟩
        case measure => exact meas_lt hlt
    · obtain rfl : k = n := by omega
      go_wp2
      go_ret
      exact ⟨HB.out, _, rfl, HR.out⟩
/-! ### table -/
theorem rowsC_congr {f g : Nat → Value} {n : Nat} (h : ∀ i, i < n → f i = g i) : rowsC f n = rowsC g n := by
  unfold rowsC
  congr 1
  exact List.map_congr_left fun i hi => h i (List.mem_range.1 hi)
set_option maxRecDepth 100000 in
set_option maxHeartbeats 16000000 in
theorem table_any (n m : Nat) (hn : n ≤ 1000) (hm : m ≤ 1000) (w : World) : Calls Try.prog 23 #[.int .i64 (n : Nat), .int .i64 (m : Nat)] w (fun e w' => Below w.heap.size w w' ∧ ∃ AL OB, e = .returned (.slice (some ⟨OB, 0, none⟩) n n) ∧ w.heap.size ≤ AL ∧ w.heap.size ≤ OB ∧ Blk w' AL 3 (intsC (List.replicate (n * m) 0)) ∧ Blk w' OB 23 (rowsC (fun i => .slice (some ⟨AL, i * m, none⟩) m m) n)) := by
  have HNM := Lib.hid (show n * m ≤ 1000000 from Nat.mul_le_mul hn hm)
  obtain ⟨q, hq⟩ : ∃ q, n * m = q := ⟨_, rfl⟩
  have HQ := Lib.hid hq
  rw [hq] at HNM ⊢
  have hqb := HNM.out
  have e1 : IntKind.i64.wrap ((n : Int) * (m : Int)) = (q : Int) := by
    rw [show (n : Int) * (m : Int) = (q : Int) by rw [← hq]; push_cast; rfl]
    exact IntWalk.i64_in _ (by omega)
  clear hq
  have hmk1 := run_makeN (P := Try.prog) 23 3 (.int .i64 0) 1 8 Try.underlying23 (by kernel_rfl) q (by omega) (by omega)
  have hmk2 := run_makeN (P := Try.prog) 28 23 (.slice none 0 0) 1 24 Try.underlying28 (by kernel_rfl) n (by omega) (by omega)
  rw [show (Value.int .i64 0).cells = #[.int .i64 0] from rfl, Nat.mul_one, made_intsN] at hmk1
  rw [show (Value.slice none 0 0).cells = #[.slice none 0 0] from rfl, Nat.mul_one, made_rows] at hmk2
  go_enter Try.func23, Try.ntmps23
  go_wp2_with fail
  have h1 := Blk.new w 3 (intsC (List.replicate q 0))
  have h2 := Blk.new (w.alloc (.cells (intsC (List.replicate q 0)) 3)) 23 (rowsC (fun _ => .slice none 0 0) n)
  rw [World.size_alloc] at h2
  obtain ⟨W2, hW2⟩ : ∃ W, W = (w.alloc (.cells (intsC (List.replicate q 0)) 3)).alloc (.cells (rowsC (fun _ => .slice none 0 0) n) 23) := ⟨_, rfl⟩
  have HB0 := Lib.hid (show Below w.heap.size w W2 by rw [hW2]; exact below_alloc (below_alloc (Below.refl _ _) _) _)
  have HA0 := Lib.hid (show Blk W2 w.heap.size 3 (intsC (List.replicate q 0)) by rw [hW2]; exact h1.alloc _)
  have HO0 := Lib.hid (show Blk W2 (w.heap.size + 1) 23 (rowsC (fun i => if i < 0 then .slice (some ⟨w.heap.size, i * m, none⟩) m m else .slice none 0 0) n) by
    rw [hW2, show (fun i : Nat => if i < 0 then Value.slice (some ⟨w.heap.size, i * m, none⟩) m m else .slice none 0 0) = (fun _ => Value.slice none 0 0) from funext fun i => if_neg (Nat.not_lt_zero _)]
    exact h2)
  rw [← hW2]
  clear hW2 h1 h2 hmk1 hmk2
  go_loopw [16] (fun i wr => ∃ k : Nat, k ≤ n ∧ i = .int .i64 k ∧ Below w.heap.size w wr ∧ Blk wr w.heap.size 3 (intsC (List.replicate q 0)) ∧ Blk wr (w.heap.size + 1) 23 (rowsC (fun i => if i < k then .slice (some ⟨w.heap.size, i * m, none⟩) m m else .slice none 0 0) n)) (fun i _ => n - (intOf i).toNat)
  case atStart => exact ⟨0, Nat.zero_le _, rfl, HB0.out, HA0.out, HO0.out⟩
  case round =>
    obtain ⟨k, hk, rfl, hb, ha, ho⟩ := hrel
    obtain ⟨wA, rfl⟩ : ∃ wA : World, wA = wr := ⟨_, rfl⟩
    clear HB0 HA0 HO0
    have HB := Lib.hid hb
    have HA := Lib.hid ha
    have HO := Lib.hid ho
    clear hb ha ho
    by_cases hlt : k < n
    · have HL := Lib.hid (show k * m + m ≤ q by
        rw [← HQ.out, ← Nat.succ_mul]
        exact Nat.mul_le_mul_right _ hlt)
      have hle := HL.out
      obtain ⟨a, ha⟩ : ∃ a, k * m = a := ⟨_, rfl⟩
      have HAA := Lib.hid ha
      rw [ha] at hle HL
      have e2 : IntKind.i64.wrap ((k : Int) * (m : Int)) = (a : Int) := by
        rw [show (k : Int) * (m : Int) = (a : Int) by rw [← ha]; push_cast; rfl]
        exact IntWalk.i64_in _ (by omega)
      have e3 : IntKind.i64.wrap (((k : Int) + 1) * (m : Int)) = ((a + m : Nat) : Int) := by
        rw [show ((k : Int) + 1) * (m : Int) = ((a + m : Nat) : Int) by rw [← ha, Int.add_mul, Int.one_mul]; push_cast; rfl]
        exact IntWalk.i64_in _ (by omega)
      clear ha
      have y1 : (0 : Int) ≤ (k : Int) := by omega
      have y2 : (k : Int) < (n : Int) := by omega
      have y3 : (0 : Int) ≤ (a : Int) := by omega
      have y4 : (a : Int) ≤ ((a + m : Nat) : Int) := by omega
      have y5 : ((a + m : Nat) : Int) ≤ (q : Int) := by omega
      obtain ⟨b, hb⟩ : ∃ b, a + m = b := ⟨_, rfl⟩
      have HBB := Lib.hid hb
      rw [hb] at e3 y4 y5
      clear hb hle
      have c0 := (HO.out.cell k).trans (rowsC_get (rv := fun i => if i < k then .slice (some ⟨w.heap.size, i * m, none⟩) m m else .slice none 0 0) hlt)
      rw [if_neg (Nat.lt_irrefl _)] at c0
      have f0 := HO.out.frozen k
      have HV := Lib.hid (show Value.slice (if b = a then some ⟨w.heap.size, 0, none⟩ else some ⟨w.heap.size, a, none⟩) (b - a) (b - a) = .slice (some ⟨w.heap.size, k * m, none⟩) m m by
        have h1 := HBB.out
        have h2 := HAA.out
        rw [h2, show b - a = m by omega]
        by_cases e : b = a
        · rw [if_pos e]
          have hm0 : m = 0 := by omega
          rw [hm0, Nat.mul_zero] at h2
          rw [← h2]
        · rw [if_neg e])
      go_wp2_with fail
      rw [HV.out]
      refine ⟨⟨k + 1, hlt, by go_num, HB.out.setCell (p := ⟨w.heap.size + 1, k, none⟩) (Nat.le_succ _) _, HA.out.other (p := ⟨w.heap.size + 1, k, none⟩) (Nat.ne_of_lt (Nat.lt_succ_self _)) _, ?_⟩, meas_lt hlt⟩
      have := HO.out.set k (.slice (some ⟨w.heap.size, k * m, none⟩) m m)
      rw [rowsC_set] at this
      rwa [rowsC_congr (g := fun i => if i < k + 1 then .slice (some ⟨w.heap.size, i * m, none⟩) m m else .slice none 0 0) (fun i hi => by
        by_cases e : i = k
        · rw [if_pos e, if_pos (by omega), e]
        · rw [if_neg e]
          by_cases e2 : i < k
          · rw [if_pos e2, if_pos (by omega)]
          · rw [if_neg e2, if_neg (by omega)])] at this
    · obtain rfl : k = n := by omega
      go_wp2
      go_ret
      refine ⟨HB.out, w.heap.size, w.heap.size + 1, rfl, Nat.le_refl _, Nat.le_succ _, HA.out, ?_⟩
      have := HO.out
      rwa [rowsC_congr (fun i hi => if_pos hi)] at this
end Go.Proofs.Ythgkfdhkmkbioaa