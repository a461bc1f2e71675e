/- Chapter 22: isOrder, Valid of the reference, small, Ints. -/
import Derived.Test.YtjaeekikddbbeaaWb22
import Derived.Test.YtjaeekikddbbeaaMake
namespace Go.Proofs.Ytjaeekikddbbeaa
open Go.RowKit
attribute [local go_sem] Oper.semAt_some

theorem eq_of_getI {la lb : List Int} (hl : la.length = lb.length) (h : ∀ j, j < la.length → la.getD j 0 = lb.getD j 0) : la = lb := by
  apply List.ext_getElem hl
  intro j h1 h2
  have := h j h1
  simpa [h1, h2] using this
set_option maxHeartbeats 4000000 in
theorem refInts_any (oa ob : Option Addr) (ca cb : Nat) (la lb : List Int) (w : World) (ha : Ints w oa la) (hb : Ints w ob lb) (hla : la.length ≤ 9223372036854775807) : Calls Try.prog 15 #[.slice oa la.length ca, .slice ob lb.length cb] w (Ret (.bool (decide (la = lb))) w) := by
  have HA := Lib.hid ha
  have HB := Lib.hid hb
  clear ha hb
  obtain ⟨V, hV⟩ : ∃ V, decide (la = lb) = V := ⟨_, rfl⟩
  rw [hV]
  have HV := Lib.hid hV
  clear hV
  by_cases hll : la.length = lb.length
  · go_enter Try.func15, Try.ntmps15
    rw [← hll]
    have HLL := Lib.hid hll
    clear hll
    go_wp2
    go_loopw [5] (fun i wr => ∃ k : Nat, k ≤ la.length ∧ i = .int .i64 k ∧ (∀ j, j < k → la.getD j 0 = lb.getD j 0) ∧ Below w.heap.size w wr) (fun i _ => la.length - (intOf i).toNat)
    case atStart => exact ⟨0, Nat.zero_le _, rfl, fun j hj => absurd hj (by omega), Below.refl _ _⟩
    case round =>
      obtain ⟨k, hk, rfl, hri, hbel⟩ := hrel
      have HRI := Lib.hid hri
      have HBL := Lib.hid hbel
      clear hri hbel
      by_cases hlt : k < la.length
      · obtain ⟨b1, o1, h1, c0⟩ := (HA.out.later HBL.out) k hlt
        obtain ⟨b2, o2, h2, d0⟩ := (HB.out.later HBL.out) k (by rw [← HLL.out]; exact hlt)
        subst h1 h2
        obtain ⟨x, hxe⟩ : ∃ x, la.getD k 0 = x := ⟨_, rfl⟩
        obtain ⟨y, hye⟩ : ∃ y, lb.getD k 0 = y := ⟨_, rfl⟩
        rw [hxe] at c0
        rw [hye] at d0
        have HXE := Lib.hid hxe
        have HYE := Lib.hid hye
        clear hxe hye
        have y1 : (0 : Int) ≤ (k : Int) := by omega
        have y2 : (k : Int) < (la.length : Int) := by omega
        by_cases hxy : x = y
        · subst hxy
          go_wp2_with fail
          go_quiet (fail)
          go_wp2
          go_roundw
          case rel => exact ⟨k + 1, by omega, by go_num, fun j hj => by rcases Nat.lt_or_eq_of_le (Nat.le_of_lt_succ hj) with h | rfl; exact HRI.out j h; rw [HXE.out, HYE.out], below_drewN HBL.out _⟩
          case measure => simp [intOf]; omega
        · obtain rfl : false = V := by
            rw [← HV.out]
            symm
            rw [decide_eq_false_iff_not]
            intro e
            subst e
            exact hxy (HXE.out.symm.trans HYE.out)
          have hne : (x != y) = true := by simpa using hxy
          clear hxy
          go_wp2_with fail
          go_quiet (fail)
          go_wp2
          go_ret
          exact ⟨rfl, below_drewN HBL.out _⟩
      · obtain rfl : k = la.length := by omega
        obtain rfl : true = V := by rw [← HV.out]; symm; rw [decide_eq_true_eq]; exact eq_of_getI HLL.out HRI.out
        go_wp2
        go_ret
        exact ⟨rfl, HBL.out⟩
  · obtain rfl : false = V := by
      rw [← HV.out]
      symm
      rw [decide_eq_false_iff_not]
      intro e
      exact hll (by rw [e])
    have hli : ¬ (la.length : Int) = (lb.length : Int) := by omega
    go_enter Try.func15, Try.ntmps15
    go_wp2
    go_ret
    exact ⟨rfl, Below.refl _ _⟩

/-- A slice of slices, of which the lengths alone matter. -/
def Lens (w : World) (o : Option Addr) (ls : List Nat) : Prop := ∀ i, i < ls.length → ∃ b off oo cap, o = some ⟨b, off, none⟩ ∧ w.cell? ⟨b, off + i, none⟩ = some (.slice oo (ls.getD i 0) cap)
theorem Lens.later {w w' : World} {o : Option Addr} {l : List Nat} (h : Lens w o l) (hb : Below w.heap.size w w') : Lens w' o l := fun i hi => by
  obtain ⟨b, off, oo, cap, ho, hc⟩ := h i hi
  exact ⟨b, off, oo, cap, ho, cell_kept hb hc⟩
def lensOk (ls : List Nat) : Bool := ls.all (fun n => decide (n ≤ 100))
def smallB (rows : List Rw) (ls : List Nat) : Bool := lensOk ls && fewR rows
set_option maxHeartbeats 4000000 in
theorem small_any (o o2 : Option Addr) (cap cap2 : Nat) (rows : List Rw) (ls : List Nat) (w : World) (hr : Rws w o rows) (hl : rows.length ≤ 9000000000000000000) (hs : Lens w o2 ls) (hl2 : ls.length ≤ 1000) : Calls Try.prog 10 #[.slice o rows.length cap, .slice o2 ls.length cap2] w (Ret (.bool (smallB rows ls)) w) := by
  have HR := Lib.hid hr
  have HS := Lib.hid hs
  obtain ⟨V, hV⟩ : ∃ V, smallB rows ls = V := ⟨_, rfl⟩
  rw [hV]
  have HI := Lib.hid (show (lensOk (ls.drop 0) && fewR rows) = V by rw [List.drop_zero]; exact hV)
  clear hr hs hV
  go_enter Try.func10, Try.ntmps10
  go_wp2
  go_loop [9] (fun i => ∃ k : Nat, k ≤ ls.length ∧ i = .int .i64 k ∧ (lensOk (ls.drop k) && fewR rows) = V) (fun i => ls.length - (intOf i).toNat)
  case atStart => exact ⟨0, Nat.zero_le _, rfl, HI.out⟩
  case round =>
    obtain ⟨k, hk, rfl, hz⟩ := hrel
    have HZ := Lib.hid hz
    clear hz HI
    by_cases hlt : k < ls.length
    · obtain ⟨g, off, oo, cp, hgo, c0⟩ := HS.out k hlt
      subst hgo
      have HD := Lib.hid (show ls.drop k = ls.getD k 0 :: ls.drop (k + 1) by rw [List.drop_eq_getElem_cons hlt]; simp [hlt])
      obtain ⟨m, hm⟩ : ∃ m, ls.getD k 0 = m := ⟨_, rfl⟩
      rw [hm] at c0 HD
      clear hm
      have HE := Lib.hid (show ((decide (m ≤ 100) && lensOk (ls.drop (k + 1))) && fewR rows) = V by rw [← HZ.out, HD.out]; rfl)
      have y1 : (0 : Int) ≤ (k : Int) := by omega
      have y2 : (k : Int) < (ls.length : Int) := by omega
      by_cases h3 : 100 < m
      · obtain rfl : V = false := by rw [← HE.out, decide_eq_false (show ¬ m ≤ 100 by omega)]; rfl
        have h3d : decide ((100 : Int) < (m : Int)) = true := by rw [decide_eq_true_eq]; omega
        go_wp2
        go_ret
        exact ⟨rfl, Below.refl _ _⟩
      have h3d : decide ((100 : Int) < (m : Int)) = false := by rw [decide_eq_false_iff_not]; omega
      have HN := Lib.hid (show (lensOk (ls.drop (k + 1)) && fewR rows) = V by rw [← HE.out, decide_eq_true (show m ≤ 100 by omega), Bool.true_and])
      go_wp2
      go_round
      case rel => exact ⟨k + 1, by omega, by go_num, HN.out⟩
      case measure => simp [intOf]; omega
    · obtain rfl : k = ls.length := by omega
      have HE := Lib.hid (show fewR rows = V by rw [← HZ.out, List.drop_length]; rfl)
      go_wp2_with fail
      refine (few_any o cap rows w HR.out hl).mono ?_
      rintro e w2 ⟨rfl, hb⟩
      have HB := Lib.hid hb
      clear hb
      rw [HE.out]
      go_wp2
      go_ret
      exact ⟨rfl, HB.out⟩


theorem zeroBool : ZeroI Try.prog 47 4 (.bool false) 1 := ZeroI.of Try.underlying47 (by kernel_rfl)
theorem zeroInt : ZeroI Try.prog 23 3 (.int .i64 0) 8 := ZeroI.of Try.underlying23 (by kernel_rfl)
theorem elemI : ElemI Try.prog 23 3 1 8 := ElemI.of Try.underlying23 (by kernel_rfl) (by decide)
/-- Which members have been seen, as cells. -/
def seenC (n : Nat) (seen : List Int) : Array Value := ((List.range n).map (fun i : Nat => Value.bool (seen.contains (i : Int)))).toArray
theorem seenC_nil (n : Nat) : Array.replicate n (Value.bool false) = seenC n [] := by
  apply Array.ext'
  unfold seenC
  rw [Array.toList_replicate]
  apply List.ext_getElem
  · simp
  · intro i h1 h2
    simp
theorem seenC_get {n : Nat} {seen : List Int} {i : Nat} (h : i < n) : (seenC n seen)[i]? = some (.bool (seen.contains (i : Int))) := by simp [seenC, h]
theorem seenC_set {n : Nat} {seen : List Int} {i : Nat} (h : i < n) : (seenC n seen).setIfInBounds i (.bool true) = seenC n ((i : Int) :: seen) := by
  apply Array.ext_getElem?
  intro j
  by_cases hj : j < n
  · by_cases hij : i = j
    · subst hij
      rw [Array.getElem?_setIfInBounds, if_pos rfl, if_pos (by simpa [seenC] using hj), seenC_get hj]
      simp
    · rw [Array.getElem?_setIfInBounds_ne hij, seenC_get hj, seenC_get hj, List.contains_cons]
      have : ((j : Int) == (i : Int)) = false := by simpa using fun e : (j : Int) = (i : Int) => hij (by omega)
      rw [this, Bool.false_or]
  · have h1 : (seenC n seen)[j]? = none := by simp [seenC]; omega
    have h2 : (seenC n ((i : Int) :: seen))[j]? = none := by simp [seenC]; omega
    rw [Array.getElem?_setIfInBounds_ne (by omega), h1, h2]
theorem below_set {W wr : World} {g i : Nat} {u : Value} (h : Below W.heap.size W wr) (hg : W.heap.size ≤ g) : Below W.heap.size W (wr.setCell ⟨g, i, none⟩ u) := h.setCell (p := ⟨g, i, none⟩) hg u
set_option maxHeartbeats 4000000 in
theorem isOrder_any (o : Option Addr) (cap : Nat) (order : List Int) (n : Int) (w : World) (hr : Ints w o order) (hl : order.length ≤ 1000000) : Calls Try.prog 21 #[.slice o order.length cap, .int .i64 n] w (Ret (.bool (isOrd order n)) w) := by
  have HR := Lib.hid hr
  obtain ⟨V, hV⟩ : ∃ V, isOrd order n = V := ⟨_, rfl⟩
  rw [hV]
  have HV := Lib.hid hV
  clear hr hV
  by_cases h1 : (order.length : Int) = n
  rotate_left
  · obtain rfl : V = false := by rw [← HV.out, isOrd, decide_eq_false h1]; rfl
    have h1d : ((order.length : Int) != n) = true := by simpa using h1
    clear h1
    go_enter Try.func21, Try.ntmps21
    go_wp2
    go_ret
    exact ⟨rfl, Below.refl _ _⟩
  subst h1
  have HI := Lib.hid (show ordOk (order.length : Nat) [] (order.drop 0) = V by rw [← HV.out, isOrd, decide_eq_true rfl, List.drop_zero]; rfl)
  clear HV
  have HN := Lib.hid (show order.length ≤ 1000000000 by omega)
  go_enter Try.func21, Try.ntmps21
  go_wp2_with (at_make; refine wp_makeN zeroBool HN.out (by decide) rfl _ _ rfl rfl rfl ?_)
  intro w1 hblk hb
  rw [seenC_nil] at hblk
  have HB1 := Lib.hid hblk
  have HB0 := Lib.hid hb
  clear hblk hb
  go_wp2
  obtain ⟨G, hG⟩ : ∃ G, w.heap.size = G := ⟨_, rfl⟩
  rw [hG] at HB1 ⊢
  have hGw : w.heap.size ≤ G := by omega
  clear hG
  go_loopw [16] (fun i wr => ∃ (k : Nat) (seen : List Int), k ≤ order.length ∧ i = .int .i64 k ∧ ordOk (order.length : Nat) seen (order.drop k) = V ∧ Blk wr G 4 (seenC order.length seen) ∧ Below w.heap.size w wr) (fun i _ => order.length - (intOf i).toNat)
  case atStart => exact ⟨0, [], Nat.zero_le _, rfl, HI.out, HB1.out, HB0.out⟩
  case round =>
    obtain ⟨k, seen, hk, rfl, hz, hblk, hb⟩ := hrel
    have HZ := Lib.hid hz
    have HBK := Lib.hid hblk
    have HB := Lib.hid hb
    clear hz hblk hb HI HB1 HB0
    by_cases hlt : k < order.length
    · obtain ⟨g, off, hgo, c0⟩ := (HR.out.later HB.out) k hlt
      subst hgo
      have HD := Lib.hid (dropI hlt)
      obtain ⟨m, hm⟩ : ∃ m, order.getD k 0 = m := ⟨_, rfl⟩
      rw [hm] at c0 HD
      clear hm
      have HE := Lib.hid (show (decide (0 ≤ m ∧ m < (order.length : Nat)) && !seen.contains m && ordOk (order.length : Nat) (m :: seen) (order.drop (k + 1))) = V by rw [← HZ.out, HD.out]; rfl)
      have y1 : (0 : Int) ≤ (k : Int) := by omega
      have y2 : (k : Int) < (order.length : Int) := by omega
      by_cases h3 : m < 0
      · obtain rfl : V = false := by rw [← HE.out, decide_eq_false (by omega)]; rfl
        have h3d : decide (m < 0) = true := by simpa using h3
        go_wp2
        go_ret
        exact ⟨rfl, HB.out⟩
      have h3d : decide (m < 0) = false := by simpa using h3
      by_cases h4 : (order.length : Int) ≤ m
      · obtain rfl : V = false := by rw [← HE.out, decide_eq_false (by omega)]; rfl
        have h4d : decide ((order.length : Int) ≤ m) = true := by simpa using h4
        go_wp2
        go_ret
        exact ⟨rfl, HB.out⟩
      have h4d : decide ((order.length : Int) ≤ m) = false := by simpa using h4
      obtain ⟨M, rfl⟩ : ∃ M : Nat, m = (M : Int) := ⟨m.toNat, by omega⟩
      have hM : M < order.length := by omega
      have d0 : wr.cell? ⟨G, M, none⟩ = some (.bool (seen.contains (M : Int))) := (HBK.out.cell M).trans (seenC_get hM)
      obtain ⟨S, hS⟩ : ∃ S, seen.contains (M : Int) = S := ⟨_, rfl⟩
      rw [hS] at d0 HE
      clear hS
      have h4n : decide (order.length ≤ M) = false := by rw [decide_eq_false_iff_not]; omega
      have h3n : decide ((M : Int) < 0) = false := by rw [decide_eq_false_iff_not]; omega
      have y3 : (0 : Int) ≤ (M : Int) := by omega
      have y4 : (M : Int) < (order.length : Int) := by omega
      cases S with
      | true =>
        obtain rfl : V = false := by rw [← HE.out]; simp
        go_wp2
        go_ret
        exact ⟨rfl, HB.out⟩
      | false =>
        have HNX := Lib.hid (show ordOk (order.length : Nat) ((M : Int) :: seen) (order.drop (k + 1)) = V by rw [← HE.out, decide_eq_true (show 0 ≤ (M : Int) ∧ (M : Int) < (order.length : Nat) by omega)]; rfl)
        have f0 := HBK.out.frozen M
        have HST := Lib.hid (show Blk (wr.setCell ⟨G, M, none⟩ (.bool true)) G 4 (seenC order.length ((M : Int) :: seen)) from by have := HBK.out.set M (.bool true); rwa [seenC_set hM] at this)
        have HBS := Lib.hid (below_set (g := G) (i := M) (u := .bool true) HB.out hGw)
        clear h3 h4
        go_wp2
        go_roundw
        case rel => exact ⟨k + 1, (M : Int) :: seen, by omega, by go_num, HNX.out, HST.out, HBS.out⟩
        case measure => simp [intOf]; omega
    · obtain rfl : k = order.length := by omega
      obtain rfl : V = true := by rw [← HZ.out, List.drop_length]; rfl
      go_wp2
      go_ret
      exact ⟨rfl, HB.out⟩

end Go.Proofs.Ytjaeekikddbbeaa
