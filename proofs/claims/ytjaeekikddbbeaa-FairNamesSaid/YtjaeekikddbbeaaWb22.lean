/- Chapter 22: Valid, validLimits, the small functions of the reference. -/
import Derived.Test.YtjaeekikddbbeaaWa22
namespace Go.Proofs.Ytjaeekikddbbeaa
open Go.RowKit
attribute [local go_sem] Oper.semAt_some

theorem cells_eq {o : Option Addr} {b off b' off' : Nat} (h : o = some ⟨b, off, none⟩) (h' : o = some ⟨b', off', none⟩) : b = b' ∧ off = off' := by
  rw [h] at h'
  injection h' with h'
  injection h' with h1 h2
  exact ⟨h1, h2⟩

set_option maxHeartbeats 4000000 in
theorem Valid_any (o : Option Addr) (cap : Nat) (rows : List Rw) (n : Int) (w : World) (hr : Rws w o rows) (hl : rows.length ≤ 9000000000000000000) : Calls Try.prog 26 #[.slice o rows.length cap, .int .i64 n] w (Ret (.bool (validRws n rows)) w) := by
  have HR := Lib.hid hr
  obtain ⟨V, hV⟩ : ∃ V, validRws n rows = V := ⟨_, rfl⟩
  rw [hV]
  have HV := Lib.hid hV
  clear hr hV
  by_cases h1 : n < 0
  · obtain rfl : V = false := by rw [← HV.out, validRws, decide_eq_false (show ¬ (0 ≤ n ∧ n ≤ 64) by omega)]; rfl
    have h1d : decide (n < 0) = true := by simpa using h1
    go_enter Try.func26, Try.ntmps26
    go_wp2
    go_ret
    exact ⟨rfl, Below.refl _ _⟩
  have h1d : decide (n < 0) = false := by simpa using h1
  by_cases h2 : 64 < n
  · obtain rfl : V = false := by rw [← HV.out, validRws, decide_eq_false (show ¬ (0 ≤ n ∧ n ≤ 64) by omega)]; rfl
    have h2d : decide (64 < n) = true := by simpa using h2
    go_enter Try.func26, Try.ntmps26
    go_wp2
    go_ret
    exact ⟨rfl, Below.refl _ _⟩
  have h2d : decide (64 < n) = false := by simpa using h2
  by_cases h3 : 64 < rows.length
  · obtain rfl : V = false := by rw [← HV.out, validRws, decide_eq_false (show ¬ rows.length ≤ 64 by omega)]; simp
    have h3d : decide ((64 : Int) < (rows.length : Int)) = true := by rw [decide_eq_true_eq]; omega
    go_enter Try.func26, Try.ntmps26
    go_wp2
    go_ret
    exact ⟨rfl, Below.refl _ _⟩
  have h3d : decide ((64 : Int) < (rows.length : Int)) = false := by rw [decide_eq_false_iff_not]; omega
  have HI := Lib.hid (show (rows.drop 0).all (validRw n) = V by rw [← HV.out, validRws, decide_eq_true (show 0 ≤ n ∧ n ≤ 64 by omega), decide_eq_true (show rows.length ≤ 64 by omega)]; simp)
  clear HV
  go_enter Try.func26, Try.ntmps26
  go_wp2
  go_loopw [20] (fun i wr => ∃ k : Nat, k ≤ rows.length ∧ i = .int .i64 k ∧ (rows.drop k).all (validRw n) = V ∧ Below w.heap.size w wr) (fun i _ => rows.length - (intOf i).toNat)
  case atStart => exact ⟨0, Nat.zero_le _, rfl, HI.out, Below.refl _ _⟩
  case round =>
    obtain ⟨k, hk, rfl, hz, hb⟩ := hrel
    have HZ := Lib.hid hz
    have HB := Lib.hid hb
    clear hz hb HI
    by_cases hlt : k < rows.length
    · obtain ⟨g, off, hgo, oo, cp, hw1, hw2, hms, c0, c1⟩ := (HR.out.later HB.out) k hlt
      subst hgo
      have HD := Lib.hid (dropW hlt)
      obtain ⟨r, hm⟩ : ∃ r, getW rows k = r := ⟨_, rfl⟩
      rw [hm] at c0 c1 HD hw1 hw2 hms
      have HMS := Lib.hid hms
      clear hm hms
      have HE := Lib.hid (show (validRw n r && (rows.drop (k + 1)).all (validRw n)) = V by rw [← HZ.out, HD.out]; rfl)
      have y1 : (0 : Int) ≤ (k : Int) := by omega
      have y2 : (k : Int) < (rows.length : Int) := by omega
      go_wp2_with fail
      clear c0 c1
      have HX := Lib.hid (box2 wr 34 (.int .i64 r.c) (.slice oo r.ms.length cp)).1
      refine (validRow_any r oo cp n _ (HMS.out.later HX.out) hw1).mono ?_
      rintro e w2 ⟨rfl, hb2⟩
      have HB2 := Lib.hid (below_step HB.out (below_step HX.out hb2))
      clear hb2
      obtain ⟨Q, hQ⟩ : ∃ Q, validRw n r = Q := ⟨_, rfl⟩
      rw [hQ] at HE ⊢
      clear hQ
      cases Q with
      | false =>
        obtain rfl : V = false := by rw [← HE.out]; rfl
        go_wp2
        go_ret
        exact ⟨rfl, HB2.out⟩
      | true =>
        have HN := Lib.hid (show (rows.drop (k + 1)).all (validRw n) = V by rw [← HE.out]; simp)
        go_wp2
        go_roundw
        case rel => exact ⟨k + 1, by omega, by go_num, HN.out, HB2.out⟩
        case measure => simp [intOf]; omega
    · obtain rfl : k = rows.length := by omega
      obtain rfl : V = true := by rw [← HZ.out, List.drop_length]; rfl
      go_wp2
      go_ret
      exact ⟨rfl, HB.out⟩

set_option maxHeartbeats 4000000 in
theorem refLimits_any (o : Option Addr) (cap : Nat) (most : List Int) (w : World) (hr : Ints w o most) (hl : most.length ≤ 9000000000000000000) : Calls Try.prog 25 #[.slice o most.length cap] w (Ret (.bool (limits most)) w) := by
  have HR := Lib.hid hr
  obtain ⟨V, hV⟩ : ∃ V, limits most = V := ⟨_, rfl⟩
  rw [hV]
  have HI := Lib.hid (show limits (most.drop 0) = V by rw [List.drop_zero]; exact hV)
  clear hr hV
  go_enter Try.func25, Try.ntmps25
  go_wp2
  go_loop [3] (fun i => ∃ k : Nat, k ≤ most.length ∧ i = .int .i64 k ∧ limits (most.drop k) = V) (fun i => most.length - (intOf i).toNat)
  case atStart => exact ⟨0, Nat.zero_le _, rfl, HI.out⟩
  case round =>
    obtain ⟨k, hk, rfl, hz⟩ := hrel
    have HZ := Lib.hid hz
    clear hz HI
    by_cases hlt : k < most.length
    · obtain ⟨g, off, hgo, c0⟩ := HR.out k hlt
      subst hgo
      have HD := Lib.hid (dropI hlt)
      obtain ⟨m, hm⟩ : ∃ m, most.getD k 0 = m := ⟨_, rfl⟩
      rw [hm] at c0 HD
      clear hm
      have HE := Lib.hid (show (decide (0 ≤ m ∧ m ≤ 1000) && limits (most.drop (k + 1))) = V by rw [← HZ.out, HD.out]; rfl)
      have y1 : (0 : Int) ≤ (k : Int) := by omega
      have y2 : (k : Int) < (most.length : Int) := by omega
      by_cases h3 : m < 0
      · obtain rfl : V = false := by rw [← HE.out, decide_eq_false (show ¬ (0 ≤ m ∧ m ≤ 1000) by omega)]; rfl
        have h3d : decide (m < 0) = true := by simpa using h3
        go_wp2
        go_ret
        exact ⟨rfl, Below.refl _ _⟩
      have h3d : decide (m < 0) = false := by simpa using h3
      by_cases h4 : 1000 < m
      · obtain rfl : V = false := by rw [← HE.out, decide_eq_false (show ¬ (0 ≤ m ∧ m ≤ 1000) by omega)]; rfl
        have h4d : decide (1000 < m) = true := by simpa using h4
        go_wp2
        go_ret
        exact ⟨rfl, Below.refl _ _⟩
      have h4d : decide (1000 < m) = false := by simpa using h4
      have HN := Lib.hid (show limits (most.drop (k + 1)) = V by rw [← HE.out, decide_eq_true (show 0 ≤ m ∧ m ≤ 1000 by omega)]; simp)
      go_wp2
      go_round
      case rel => exact ⟨k + 1, by omega, by go_num, HN.out⟩
      case measure => simp [intOf]; omega
    · obtain rfl : k = most.length := by omega
      obtain rfl : V = true := by rw [← HZ.out, List.drop_length]; rfl
      go_wp2
      go_ret
      exact ⟨rfl, Below.refl _ _⟩

set_option maxHeartbeats 4000000 in
theorem validLimits_any (o o2 : Option Addr) (cap cap2 : Nat) (rows : List Rw) (most : List Int) (w : World) (hr : Rws w o rows) (hm : Ints w o2 most) (hl : rows.length ≤ 9000000000000000000) (hl2 : most.length ≤ 9000000000000000000) : Calls Try.prog 20 #[.slice o rows.length cap, .slice o2 most.length cap2] w (Ret (.bool (validLim rows most)) w) := by
  have HR := Lib.hid hr
  have HM := Lib.hid hm
  obtain ⟨V, hV⟩ : ∃ V, validLim rows most = V := ⟨_, rfl⟩
  rw [hV]
  have HV := Lib.hid hV
  clear hr hm hV
  go_enter Try.func20, Try.ntmps20
  go_wp2_with fail
  refine (Valid_any o cap rows (most.length : Nat) w HR.out hl).mono ?_
  rintro e w1 ⟨rfl, hb⟩
  have HB := Lib.hid hb
  clear hb
  obtain ⟨Q, hQ⟩ : ∃ Q, validRws (most.length : Nat) rows = Q := ⟨_, rfl⟩
  have HE := Lib.hid (show (Q && limits most) = V by rw [← HV.out, validLim, hQ])
  rw [hQ]
  clear hQ HV
  cases Q with
  | false =>
    obtain rfl : V = false := by rw [← HE.out]; rfl
    go_wp2
    go_ret
    exact ⟨rfl, HB.out⟩
  | true =>
  have HI := Lib.hid (show limits (most.drop 0) = V by rw [List.drop_zero, ← HE.out]; simp)
  have HM1 := Lib.hid (HM.out.later HB.out)
  clear HE
  go_wp2
  go_loop [14] (fun i => ∃ k : Nat, k ≤ most.length ∧ i = .int .i64 k ∧ limits (most.drop k) = V) (fun i => most.length - (intOf i).toNat)
  case atStart => exact ⟨0, Nat.zero_le _, rfl, HI.out⟩
  case round =>
    obtain ⟨k, hk, rfl, hz⟩ := hrel
    have HZ := Lib.hid hz
    clear hz HI
    by_cases hlt : k < most.length
    · obtain ⟨g, off, hgo, c0⟩ := HM1.out k hlt
      subst hgo
      have HD := Lib.hid (dropI hlt)
      obtain ⟨m, hm⟩ : ∃ m, most.getD k 0 = m := ⟨_, rfl⟩
      rw [hm] at c0 HD
      clear hm
      have HE := Lib.hid (show (decide (0 ≤ m ∧ m ≤ 1000) && limits (most.drop (k + 1))) = V by rw [← HZ.out, HD.out]; rfl)
      have y1 : (0 : Int) ≤ (k : Int) := by omega
      have y2 : (k : Int) < (most.length : Int) := by omega
      by_cases h3 : m < 0
      · obtain rfl : V = false := by rw [← HE.out, decide_eq_false (show ¬ (0 ≤ m ∧ m ≤ 1000) by omega)]; rfl
        have h3d : decide (m < 0) = true := by simpa using h3
        go_wp2
        go_ret
        exact ⟨rfl, HB.out⟩
      have h3d : decide (m < 0) = false := by simpa using h3
      by_cases h4 : 1000 < m
      · obtain rfl : V = false := by rw [← HE.out, decide_eq_false (show ¬ (0 ≤ m ∧ m ≤ 1000) by omega)]; rfl
        have h4d : decide (1000 < m) = true := by simpa using h4
        go_wp2
        go_ret
        exact ⟨rfl, HB.out⟩
      have h4d : decide (1000 < m) = false := by simpa using h4
      have HN := Lib.hid (show limits (most.drop (k + 1)) = V by rw [← HE.out, decide_eq_true (show 0 ≤ m ∧ m ≤ 1000 by omega)]; simp)
      go_wp2
      go_round
      case rel => exact ⟨k + 1, by omega, by go_num, HN.out⟩
      case measure => simp [intOf]; omega
    · obtain rfl : k = most.length := by omega
      obtain rfl : V = true := by rw [← HZ.out, List.drop_length]; rfl
      go_wp2
      go_ret
      exact ⟨rfl, HB.out⟩

def fewR (rows : List Rw) : Bool := rows.all (fun r => decide (r.ms.length ≤ 100)) && decide (rows.length ≤ 80)
set_option maxHeartbeats 4000000 in
theorem few_any (o : Option Addr) (cap : Nat) (rows : List Rw) (w : World) (hr : Rws w o rows) (hl : rows.length ≤ 9000000000000000000) : Calls Try.prog 19 #[.slice o rows.length cap] w (Ret (.bool (fewR rows)) w) := by
  have HR := Lib.hid hr
  obtain ⟨V, hV⟩ : ∃ V, fewR rows = V := ⟨_, rfl⟩
  rw [hV]
  have HI := Lib.hid (show ((rows.drop 0).all (fun r => decide (r.ms.length ≤ 100)) && decide (rows.length ≤ 80)) = V by rw [List.drop_zero]; exact hV)
  clear hr hV
  go_enter Try.func19, Try.ntmps19
  go_wp2
  go_loop [3] (fun i => ∃ k : Nat, k ≤ rows.length ∧ i = .int .i64 k ∧ ((rows.drop k).all (fun r => decide (r.ms.length ≤ 100)) && decide (rows.length ≤ 80)) = V) (fun i => rows.length - (intOf i).toNat)
  case atStart => exact ⟨0, Nat.zero_le _, rfl, HI.out⟩
  case round =>
    obtain ⟨k, hk, rfl, hz⟩ := hrel
    have HZ := Lib.hid hz
    clear hz HI
    by_cases hlt : k < rows.length
    · obtain ⟨g, off, hgo, oo, cp, hw1, hw2, hms, c0, c1⟩ := HR.out k hlt
      subst hgo
      have HD := Lib.hid (dropW hlt)
      obtain ⟨r, hm⟩ : ∃ r, getW rows k = r := ⟨_, rfl⟩
      rw [hm] at c0 c1 HD hw1 hw2
      clear hm hms
      have HE := Lib.hid (show ((decide (r.ms.length ≤ 100) && (rows.drop (k + 1)).all (fun r => decide (r.ms.length ≤ 100))) && decide (rows.length ≤ 80)) = V by rw [← HZ.out, HD.out]; rfl)
      have y1 : (0 : Int) ≤ (k : Int) := by omega
      have y2 : (k : Int) < (rows.length : Int) := by omega
      by_cases h3 : 100 < r.ms.length
      · obtain rfl : V = false := by rw [← HE.out, decide_eq_false (show ¬ r.ms.length ≤ 100 by omega)]; rfl
        have h3d : decide ((100 : Int) < (r.ms.length : Int)) = true := by rw [decide_eq_true_eq]; omega
        go_wp2
        go_ret
        exact ⟨rfl, Below.refl _ _⟩
      have h3d : decide ((100 : Int) < (r.ms.length : Int)) = false := by rw [decide_eq_false_iff_not]; omega
      have HN := Lib.hid (show ((rows.drop (k + 1)).all (fun r => decide (r.ms.length ≤ 100)) && decide (rows.length ≤ 80)) = V by rw [← HE.out, decide_eq_true (show r.ms.length ≤ 100 by omega), Bool.true_and])
      go_wp2
      go_round
      case rel => exact ⟨k + 1, by omega, by go_num, HN.out⟩
      case measure => simp [intOf]; omega
    · obtain rfl : k = rows.length := by omega
      have HE := Lib.hid (show decide ((rows.length : Int) ≤ 80) = V by rw [← HZ.out, List.drop_length, List.all_nil, Bool.true_and]; by_cases h : rows.length ≤ 80 <;> simp [h] <;> omega)
      have hd : decide ((rows.length : Int) ≤ 80) = V := HE.out
      clear HZ HE
      go_wp2
      go_ret
      exact ⟨rfl, Below.refl _ _⟩

set_option maxHeartbeats 4000000 in
theorem In_any (r : Rw) (o : Option Addr) (cap : Nat) (m : Int) (w : World) (hr : Ints w o r.ms) (hl : r.ms.length ≤ 9000000000000000000) : Calls Try.prog 16 #[rwV r o cap, .int .i64 m] w (Ret (.bool (r.ms.contains m)) w) := by
  have HR := Lib.hid (hr.later (box2 w 34 (.int .i64 r.c) (.slice o r.ms.length cap)).1)
  have HB := Lib.hid (box2 w 34 (.int .i64 r.c) (.slice o r.ms.length cap)).1
  obtain ⟨V, hV⟩ : ∃ V, r.ms.contains m = V := ⟨_, rfl⟩
  rw [hV]
  have HI := Lib.hid (show (r.ms.drop 0).contains m = V by rw [List.drop_zero]; exact hV)
  clear hr hV
  go_enter Try.func16, Try.ntmps16
  go_wp2
  go_loop [5] (fun i => ∃ k : Nat, k ≤ r.ms.length ∧ i = .int .i64 k ∧ (r.ms.drop k).contains m = V) (fun i => r.ms.length - (intOf i).toNat)
  case atStart => exact ⟨0, Nat.zero_le _, rfl, HI.out⟩
  case round =>
    obtain ⟨k, hk, rfl, hz⟩ := hrel
    have HZ := Lib.hid hz
    clear hz HI
    by_cases hlt : k < r.ms.length
    · obtain ⟨g, off, hgo, c0⟩ := HR.out k hlt
      subst hgo
      have HD := Lib.hid (dropI hlt)
      obtain ⟨x, hm⟩ : ∃ m, r.ms.getD k 0 = m := ⟨_, rfl⟩
      rw [hm] at c0 HD
      clear hm
      have HE := Lib.hid (show (m == x || (r.ms.drop (k + 1)).contains m) = V by rw [← HZ.out, HD.out, List.contains_cons])
      have y1 : (0 : Int) ≤ (k : Int) := by omega
      have y2 : (k : Int) < (r.ms.length : Int) := by omega
      by_cases h3 : x = m
      · subst h3
        obtain rfl : V = true := by rw [← HE.out, beq_self_eq_true]; rfl
        go_wp2
        go_ret
        exact ⟨rfl, HB.out⟩
      have h3d : (x == m) = false := by simpa using h3
      have HN := Lib.hid (show (r.ms.drop (k + 1)).contains m = V by rw [← HE.out, (show (m == x) = false by simpa using fun e => h3 e.symm), Bool.false_or])
      clear h3
      go_wp2
      go_round
      case rel => exact ⟨k + 1, by omega, by go_num, HN.out⟩
      case measure => simp [intOf]; omega
    · obtain rfl : k = r.ms.length := by omega
      obtain rfl : V = false := by rw [← HZ.out, List.drop_length]; rfl
      go_wp2
      go_ret
      exact ⟨rfl, HB.out⟩

theorem sum_bd {x : List Int} : ∀ {l : List Int}, (∀ m ∈ l, 0 ≤ atI x m ∧ atI x m ≤ 1000) → 0 ≤ (l.map (atI x)).sum ∧ (l.map (atI x)).sum ≤ 1000 * (l.length : Int)
  | [], _ => by simp
  | a :: bs, h => by
    have h1 := h a (List.mem_cons_self ..)
    have h2 := sum_bd (l := bs) (fun m hm => h m (List.mem_cons_of_mem _ hm))
    simp only [List.map_cons, List.sum_cons, List.length_cons]
    omega
theorem getD_mem {l : List Int} {k : Nat} (h : k < l.length) : l.getD k 0 ∈ l := by
  rw [List.getD_eq_getElem?_getD, List.getElem?_eq_getElem h]
  exact List.getElem_mem h
theorem Ints.at {w : World} {o : Option Addr} {x : List Int} (h : Ints w o x) {m : Int} (hm : 0 ≤ m ∧ m < x.length) : ∃ b off, o = some ⟨b, off, none⟩ ∧ w.cell? ⟨b, off + m.toNat, none⟩ = some (.int .i64 (atI x m)) := h m.toNat (by omega)
set_option maxHeartbeats 4000000 in
theorem Sum_any (r : Rw) (o o2 : Option Addr) (cap cap2 : Nat) (x : List Int) (w : World) (hr : Ints w o r.ms) (hx : Ints w o2 x) (hl : r.ms.length ≤ 1000000) (h1 : ∀ m ∈ r.ms, 0 ≤ m ∧ m < (x.length : Int)) (h2 : ∀ m ∈ r.ms, 0 ≤ atI x m ∧ atI x m ≤ 1000) : Calls Try.prog 17 #[rwV r o cap, .slice o2 x.length cap2] w (Ret (.int .i64 (sumR r x)) w) := by
  have HR := Lib.hid (hr.later (box2 w 34 (.int .i64 r.c) (.slice o r.ms.length cap)).1)
  have HX := Lib.hid (hx.later (box2 w 34 (.int .i64 r.c) (.slice o r.ms.length cap)).1)
  have HB := Lib.hid (box2 w 34 (.int .i64 r.c) (.slice o r.ms.length cap)).1
  have H1 := Lib.hid h1
  have H2 := Lib.hid h2
  obtain ⟨V, hV⟩ : ∃ V, sumR r x = V := ⟨_, rfl⟩
  rw [hV]
  have HI := Lib.hid (show 0 + ((r.ms.drop 0).map (atI x)).sum = V by rw [List.drop_zero, Int.zero_add]; exact hV)
  clear hr hx hV h1 h2
  go_enter Try.func17, Try.ntmps17
  go_wp2
  go_loop [5, 6] (fun s i => ∃ (k : Nat) (t : Int), k ≤ r.ms.length ∧ i = .int .i64 k ∧ s = .int .i64 t ∧ (0 ≤ t ∧ t ≤ 1000 * (k : Int)) ∧ t + ((r.ms.drop k).map (atI x)).sum = V) (fun _ i => r.ms.length - (intOf i).toNat)
  case atStart => exact ⟨0, 0, Nat.zero_le _, rfl, rfl, by omega, HI.out⟩
  case round =>
    obtain ⟨k, t, hk, rfl, rfl, ht, hz⟩ := hrel
    have HZ := Lib.hid hz
    clear hz HI
    by_cases hlt : k < r.ms.length
    · obtain ⟨g, off, hgo, c0⟩ := HR.out k hlt
      subst hgo
      have HD := Lib.hid (dropI hlt)
      have hmb := H1.out _ (getD_mem hlt)
      have hmx := H2.out _ (getD_mem hlt)
      obtain ⟨m, hm⟩ : ∃ m, r.ms.getD k 0 = m := ⟨_, rfl⟩
      rw [hm] at c0 HD hmb hmx
      clear hm
      obtain ⟨g2, off2, hgo2, d0⟩ := HX.out.at hmb
      subst hgo2
      have HN := Lib.hid (show t + atI x m + ((r.ms.drop (k + 1)).map (atI x)).sum = V by rw [← HZ.out, HD.out, List.map_cons, List.sum_cons]; omega)
      obtain ⟨q, hq⟩ : ∃ q, atI x m = q := ⟨_, rfl⟩
      rw [hq] at d0 HN hmx
      clear hq
      obtain ⟨M, rfl⟩ : ∃ M : Nat, m = (M : Int) := ⟨m.toNat, by omega⟩
      have y1 : (0 : Int) ≤ (k : Int) := by omega
      have y2 : (k : Int) < (r.ms.length : Int) := by omega
      have y3 : (0 : Int) ≤ (M : Int) := by omega
      have y4 : (M : Int) < (x.length : Int) := hmb.2
      rw [Int.toNat_natCast] at d0
      clear hmb
      go_wp2
      go_round
      case rel => exact ⟨k + 1, t + q, by omega, by go_num, rfl, by omega, HN.out⟩
      case measure => simp [intOf]; omega
    · obtain rfl : k = r.ms.length := by omega
      obtain rfl : t = V := by rw [← HZ.out, List.drop_length]; simp
      go_wp2
      go_ret
      exact ⟨rfl, HB.out⟩

end Go.Proofs.Ytjaeekikddbbeaa
