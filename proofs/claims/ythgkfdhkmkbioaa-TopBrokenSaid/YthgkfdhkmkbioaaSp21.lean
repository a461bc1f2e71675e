/- Sorting of few elements, as Go's library begins it; searching; copying. -/
import Derived.Test.YthgkfdhkmkbioaaSo21
import Derived.Test.YthgkfdhkmkbioaaPg21
namespace Go.Proofs.Ythgkfdhkmkbioaa
open Go.RowKit Go.Shelf
attribute [local go_sem] Oper.semAt_some

def AnInt (w : World) (e : Ending) (w' : World) : Prop := (∃ v : Int, e = .returned (.int .i64 v)) ∧ w = w'
set_option maxRecDepth 100000 in
set_option maxHeartbeats 4000000 in
theorem len64_any (n : Nat) (hn : n ≤ 12) (w : World) : Calls Try.prog 66 #[.int .u64 (n : Nat)] w (AnInt w) := by
  have h : n = 0 ∨ n = 1 ∨ n = 2 ∨ n = 3 ∨ n = 4 ∨ n = 5 ∨ n = 6 ∨ n = 7 ∨ n = 8 ∨ n = 9 ∨ n = 10 ∨ n = 11 ∨ n = 12 := by omega
  rcases h with rfl | rfl | rfl | rfl | rfl | rfl | rfl | rfl | rfl | rfl | rfl | rfl | rfl
  all_goals
    go_enter Try.func66, Try.ntmps66
    go_wp2
    go_ret
    exact ⟨⟨_, rfl⟩, rfl⟩
theorem len_any (n : Nat) (hn : n ≤ 12) (w : World) : Calls Try.prog 46 #[.int .u64 (n : Nat)] w (AnInt w) := by
  go_enter Try.func46, Try.ntmps46
  go_wp2_with fail
  refine (len64_any n hn w).mono ?_
  rintro _ w2 ⟨⟨v, rfl⟩, rfl⟩
  go_wp2
  go_ret
  exact ⟨⟨v, rfl⟩, rfl⟩
def SortedOut (n cap g B : Nat) (l : List Int) (w : World) (e : Ending) (w' : World) : Prop := e = .returned (.tuple #[]) ∧ Below B w w' ∧ w'.ownsRow B 3 1 (.slice (some ⟨g, 0, none⟩) n cap) n (intsV (insS ltI l n))
set_option maxRecDepth 100000 in
set_option maxHeartbeats 4000000 in
theorem pdq_any (n cap g B : Nat) (b : Int) (l : List Int) (hl : l.length = n) (hn : n ≤ 12) (w : World) (hr : w.ownsRow B 3 1 (.slice (some ⟨g, 0, none⟩) n cap) n (intsV l)) (hB : B ≤ w.heap.size) : Calls Try.prog 45 #[.slice (some ⟨g, 0, none⟩) n cap, .int .i64 0, .int .i64 (n : Nat), .int .i64 b] w (SortedOut n cap g B l w) := by
  have HS := Lib.hid (insOrd_any n cap g B l hl (by omega) w hr hB)
  clear hr
  have y1 : decide ((n : Int) ≤ 12) = true := decide_eq_true (by omega)
  have y2 : decide (n ≤ 12) = true := decide_eq_true hn
  go_enter Try.func45, Try.ntmps45
  go_wp2_with fail
  refine wp_loop_rounds 1 ?_
  rw [rounds_succ]
  go_wp2_with fail
  refine HS.out.mono ?_
  rintro _ w2 ⟨rfl, h1, h2⟩
  have H1 := Lib.hid h1
  have H2 := Lib.hid h2
  clear h1 h2
  go_wp2
  (try simp only [Exit.noGoto_ret])
  first
    | exact bodyPost_ret (results_none rfl _ _ _) rfl ⟨rfl, H1.out, H2.out⟩
    | (go_end0; exact ⟨rfl, H1.out, H2.out⟩)
theorem sort_any (n cap g B : Nat) (l : List Int) (hl : l.length = n) (hn : n ≤ 12) (w : World) (hr : w.ownsRow B 3 1 (.slice (some ⟨g, 0, none⟩) n cap) n (intsV l)) (hB : B ≤ w.heap.size) : Calls Try.prog 32 #[.slice (some ⟨g, 0, none⟩) n cap] w (SortedOut n cap g B l w) := by
  have HR := Lib.hid hr
  have HL := Lib.hid hl
  have e1 : IntKind.u64.wrap (n : Int) = (n : Int) := IntWalk.u64_in _ (by omega)
  clear hr hl
  go_enter Try.func32, Try.ntmps32
  go_wp2_with fail
  refine (len_any n hn w).mono ?_
  rintro _ w2 ⟨⟨v, rfl⟩, rfl⟩
  go_wp2_with fail
  refine (pdq_any n cap g B v l HL.out hn w HR.out hB).mono ?_
  rintro _ w2 ⟨rfl, h1, h2⟩
  have H1 := Lib.hid h1
  have H2 := Lib.hid h2
  clear h1 h2
  go_wp2
  go_end0
  exact ⟨rfl, H1.out, H2.out⟩

/-! ### Searching -/
def IdxOut (l : List Int) (x : Int) (w : World) (e : Ending) (w' : World) : Prop := (∃ v : Int, e = .returned (.int .i64 v) ∧ (decide (0 ≤ v) = decide (x ∈ l))) ∧ w = w'
set_option maxRecDepth 100000 in
theorem index_any (o : Option Addr) (cap : Nat) (l : List Int) (x : Int) (w : World) (h : Ints w o l) (hl : l.length ≤ 1000) : Calls Try.prog 71 #[.slice o l.length cap, .int .i64 x] w (IdxOut l x w) := by
  have HI := Lib.hid h
  clear h
  go_enter Try.func71, Try.ntmps71
  go_wp2_with fail
  go_loop [8] (fun i => ∃ k : Nat, k ≤ l.length ∧ i = .int .i64 k ∧ ∀ j, j < k → l.getD j 0 ≠ x) (fun i => l.length - (intOf i).toNat)
  case atStart => exact ⟨0, Nat.zero_le _, rfl, fun _ h => absurd h (Nat.not_lt_zero _)⟩
  case round =>
    obtain ⟨k, hk, rfl, hne⟩ := hrel
    have HN := Lib.hid hne
    clear hne
    by_cases hlt : k < l.length
    · obtain ⟨b, off, rfl, c0⟩ := HI.out k hlt
      have HM : Hid (l.getD k 0 ∈ l) := Lib.hid (by rw [getD_at hlt]; exact List.getElem_mem hlt)
      have HN2 : Hid (l.getD k 0 ≠ x → ∀ j, j < k + 1 → l.getD j 0 ≠ x) := Lib.hid fun h j hj => by
        by_cases e : j = k
        · rw [e]; exact h
        · exact HN.out j (by omega)
      obtain ⟨y, hy⟩ : ∃ y, l.getD k 0 = y := ⟨_, rfl⟩
      rw [hy] at c0 HM HN2
      clear hy
      have y1 : (0 : Int) ≤ (k : Int) := by omega
      have y2 : (k : Int) < (l.length : Int) := by omega
      by_cases hx : x = y
      · have dx : ((x : Int) == y) = true := by simp [hx]
        have HX : Hid (decide ((0 : Int) ≤ (k : Int)) = decide (x ∈ l)) := Lib.hid (by rw [decide_eq_true y1, decide_eq_true (by rw [hx]; exact HM.out)])
        clear hx
        go_wp2
        go_ret
        exact ⟨⟨_, rfl, HX.out⟩, rfl⟩
      · have dx : ((x : Int) == y) = false := by simp [hx]
        have HN3 := Lib.hid (HN2.out (fun h => hx h.symm))
        clear hx
        go_wp2
        go_round
        case rel => exact ⟨k + 1, hlt, by go_num, HN3.out⟩
        case measure => simp [intOf]; omega
    · obtain rfl : k = l.length := by omega
      have HX : Hid (decide ((0 : Int) ≤ -1) = decide (x ∈ l)) := Lib.hid (by
        rw [decide_eq_false (show ¬ (0 : Int) ≤ -1 by omega), decide_eq_false (fun hm => by
          obtain ⟨i, hi, rfl⟩ := List.getElem_of_mem hm
          exact HN.out i hi (getD_at hi))])
      go_wp2
      go_ret
      exact ⟨⟨_, rfl, HX.out⟩, rfl⟩
theorem contains_any (o : Option Addr) (cap : Nat) (l : List Int) (x : Int) (w : World) (h : Ints w o l) (hl : l.length ≤ 1000) : Calls Try.prog 50 #[.slice o l.length cap, .int .i64 x] w (fun e w' => e = .returned (.bool (decide (x ∈ l))) ∧ w = w') := by
  have HI := Lib.hid h
  clear h
  go_enter Try.func50, Try.ntmps50
  go_wp2_with fail
  refine (index_any o cap l x w HI.out hl).mono ?_
  rintro _ w2 ⟨⟨v, rfl, hv⟩, rfl⟩
  have HV := Lib.hid hv
  clear hv
  go_wp2
  go_ret
  exact ⟨by rw [← HV.out]; rfl, rfl⟩

/-! ### Copying -/
theorem run_nilI (a : Option Addr) (l c : Nat) (w : World) : (binOp .eql 23 (.slice a l c) (.slice none 0 0)).run Try.prog w = .ok (.bool a.isNone) w := by
  simp only [binOp]
  simp [run_equal_slice_nil _ 23 3 a l c Try.underlying23]
theorem cloneNil_any (w : World) : Calls Try.prog 30 #[.slice none 0 0] w (fun e w' => e = .returned (.slice none 0 0) ∧ w = w') := by
  have hnil := run_nilI
  go_enter Try.func30, Try.ntmps30
  go_wp2
  go_ret
  exact ⟨rfl, rfl⟩
def CloneOut (l : List Int) (w : World) (e : Ending) (w' : World) : Prop := Below w.heap.size w w' ∧ ∃ v, e = .returned v ∧ w'.ownsRow w.heap.size 3 1 v l.length (intsV l)
set_option maxRecDepth 100000 in
set_option maxHeartbeats 4000000 in
theorem clone_any (b off : Nat) (cap : Nat) (l : List Int) (w : World) (h : Ints w (some ⟨b, off, none⟩) l) (hl : l.length ≤ 1000) : Calls Try.prog 30 #[.slice (some ⟨b, off, none⟩) l.length cap] w (CloneOut l w) := by
  have HI := Lib.hid h
  clear h
  have hnil := run_nilI
  have HC := Lib.hid (fun (w' : World) (hb : Below w.heap.size w w') => show ∀ (j : Nat) (u : Value), (intsV l)[j]? = some u → w'.cell? ((⟨b, off, none⟩ : Addr).add j) = some u from fun j u hj => by
    have hjl : j < l.length := by have := (List.getElem?_eq_some_iff.1 hj).1; simpa [intsV] using this
    obtain ⟨b', off', h1, h2⟩ := HI.out j hjl
    cases h1
    rw [Addr.add_lit]
    exact (cell_kept hb h2).trans ((intsV_get hjl).symm.trans hj))
  have HLL := Lib.hid (show (intsV l).length = l.length * 1 by simp [intsV])
  have H1C := Lib.hid (show ∀ u ∈ intsV l, u.oneCell' = true from fun u hu => by
    obtain ⟨x, _, rfl⟩ := List.mem_map.1 hu
    rfl)
  obtain ⟨m, hm⟩ : ∃ m, l.length = m := ⟨_, rfl⟩
  obtain ⟨X, hX⟩ : ∃ X, intsV l = X := ⟨_, rfl⟩
  have HMM := Lib.hid hm
  have HXX := Lib.hid hX
  rw [hm] at HLL hl ⊢
  rw [hX] at HC HLL H1C
  clear hm hX
  go_enter Try.func30, Try.ntmps30
  have HR0 := Lib.hid (show Row w (w.alloc (.cells #[] 3)) 3 1 (.slice (some ⟨w.heap.size, 0, none⟩) 0 0) 0 [] from Row.lit (Below.refl _ _) #[] 0 (by decide) rfl)
  have HCC := Lib.hid (HC.out _ (below_alloc (Below.refl w.heap.size w) (.cells #[] 3)))
  go_wp2_with (at_builtin; refine wp_appendN elemI HR0.out (k := m) (c := cap) (news := X) (by omega) (by decide) HLL.out H1C.out HCC.out rfl (.tmp 5) (.tmp 6) rfl rfl rfl ?_)
  intro v' w6 hrow
  have HO : Hid (CloneOut l w (.returned v') w6) := Lib.hid ⟨hrow.below, v', rfl, by rw [HMM.out, HXX.out]; first | exact hrow.own | exact ownsRow_cast hrow.own rfl (List.nil_append _) | exact ownsRow_cast hrow.own (Nat.zero_add _) (List.nil_append _)⟩
  clear hrow HCC HR0 HLL H1C HC
  go_wp2
  go_ret
  exact HO.out
end Go.Proofs.Ythgkfdhkmkbioaa
