/- Chapter 07: head and the laws, walked. -/
import Derived.Test.YtmiedlgcdkggdaaWf07
import Derived.Test.YtmiedlgcdkggdaaOwn
namespace Go.Proofs.Ytmiedlgcdkggdaa
open Go.RowKit

theorem perm126 : PermitOf 10 (min 4 100 * (60000 - 20000)) 126 := by
  refine ⟨by decide, by decide, by decide, fun i hi hi2 => ?_⟩
  have := sq_mono (g := 10) (x := 127) (y := i) (by decide) (by decide) (by omega)
  have e : (min 4 100 * (60000 - 20000) : Int) = 160000 := by decide
  rw [e]
  omega

set_option maxHeartbeats 4000000 in
theorem head_any (w : World) : Calls Try.prog 8 #[] w (Ret (.bool true) w) := by
  have HX := Lib.hid (CB.new w 20000 60000 10 4 100)
  have c0 : True := trivial
  have c1 : True := trivial
  have c2 : True := trivial
  have c3 : True := trivial
  have c4 : True := trivial
  go_enter Try.func8, Try.ntmps8
  go_wp2_with fail
  refine (permitted_any 20000 60000 10 4 100 126 _ (by decide) (by decide) perm126).mono ?_
  rintro e w1 ⟨rfl, hb⟩
  replace HX := Lib.hid (HX.out.later hb)
  clear hb c0 c1 c2 c3 c4
  obtain ⟨c0, c1, c2, c3, c4⟩ := HX.out.cells
  go_wp2_with fail
  refine (next_any 20000 60000 10 4 100 20000 100 _).mono ?_
  rw [show nextV 20000 60000 10 4 100 20000 100 = .tuple #[.int .i64 21000, .int .i64 0] by kernel_rfl]
  rintro e w1 ⟨rfl, hb⟩
  replace HX := Lib.hid (HX.out.later hb)
  clear hb c0 c1 c2 c3 c4
  obtain ⟨c0, c1, c2, c3, c4⟩ := HX.out.cells
  go_wp2_with fail
  refine (next_any 20000 60000 10 4 100 21000 100 _).mono ?_
  rw [show nextV 20000 60000 10 4 100 21000 100 = .tuple #[.int .i64 21960, .int .i64 0] by kernel_rfl]
  rintro e w1 ⟨rfl, hb⟩
  replace HX := Lib.hid (HX.out.later hb)
  clear hb c0 c1 c2 c3 c4
  obtain ⟨c0, c1, c2, c3, c4⟩ := HX.out.cells
  go_wp2_with fail
  refine (permitted_zero 0 0 0 0 0 _ (by decide)).mono ?_
  rintro e w1 ⟨rfl, hb⟩
  replace HX := Lib.hid (HX.out.later hb)
  clear hb c0 c1 c2 c3 c4
  obtain ⟨c0, c1, c2, c3, c4⟩ := HX.out.cells
  go_wp2_with fail
  refine (next_any 20000 60000 10 4 100 20000 1001 _).mono ?_
  rw [show nextV 20000 60000 10 4 100 20000 1001 = .tuple #[.int .i64 0, .int .i64 1] by kernel_rfl]
  rintro e w1 ⟨rfl, hb⟩
  replace HX := Lib.hid (HX.out.later hb)
  clear hb c0 c1 c2 c3 c4
  obtain ⟨c0, c1, c2, c3, c4⟩ := HX.out.cells
  go_wp2_with fail
  refine (next_any 20000 60000 10 4 100 (-1) 0 _).mono ?_
  rw [show nextV 20000 60000 10 4 100 (-1) 0 = .tuple #[.int .i64 0, .int .i64 1] by kernel_rfl]
  rintro e w1 ⟨rfl, hb⟩
  replace HX := Lib.hid (HX.out.later hb)
  clear hb c0 c1 c2 c3 c4
  obtain ⟨c0, c1, c2, c3, c4⟩ := HX.out.cells
  go_wp2_with fail
  refine (Hot_any 20000 60000 10 4 100 59999 (some ⟨w1.heap.size, 0, none⟩) 3 [126, 0, 200] _ ?_ (by decide) (by decide) (by decide) (by decide)).mono ?_
  · intro i hi
    refine ⟨_, 0, rfl, ?_⟩
    have hn := (Blk.new w1 3 #[.int .i64 126, .int .i64 0, .int .i64 200]).cell i
    rw [Nat.zero_add]
    refine hn.trans ?_
    match i, hi with
    | 0, _ => rfl
    | 1, _ => rfl
    | 2, _ => rfl
  rw [show hotAt 20000 60000 10 4 100 59999 0 [126, 0, 200] = 2 by decide]
  rintro e w2 ⟨rfl, hb⟩
  replace HX := Lib.hid ((HX.out.later (below_alloc (Below.refl _ _) _)).later hb)
  clear hb c0 c1 c2 c3 c4
  obtain ⟨c0, c1, c2, c3, c4⟩ := HX.out.cells
  go_wp2_with fail
  refine (permitted_bad 5 5 0 0 1 _ (by decide)).mono ?_
  rintro e w1 ⟨rfl, hb⟩
  replace HX := Lib.hid (HX.out.later hb)
  clear hb c0 c1 c2 c3 c4
  obtain ⟨c0, c1, c2, c3, c4⟩ := HX.out.cells
  go_wp2
  go_ret
  exact ⟨rfl, HX.out.below⟩

/-- What Next returns: a number and an error. -/
theorem nextV_cases (a m g l d t x : Int) : (nextV a m g l d t x = .tuple #[.int .i64 0, .int .i64 1] ∧ nextOk a m g l d t x = false) ∨ (nextV a m g l d t x = .tuple #[.int .i64 0, .int .i64 3] ∧ nextOk a m g l d t x = true) ∨
    (nextV a m g l d t x = .tuple #[.int .i64 (nextN a m g l d t x), .int .i64 0] ∧ nextOk a m g l d t x = true) := by
  unfold nextV
  cases h : nextOk a m g l d t x with
  | false => exact .inl ⟨rfl, rfl⟩
  | true =>
    cases h2 : isT (nextN a m g l d t x) with
    | false => exact .inr (.inl ⟨rfl, rfl⟩)
    | true => exact .inr (.inr ⟨rfl, rfl⟩)

theorem nextOk_iff {a m g l d t x : Int} : nextOk a m g l d t x = true ↔ validC a m g l d = true ∧ (0 ≤ t ∧ t ≤ 1000000000) ∧ 0 ≤ x ∧ x ≤ 1000 := by
  simp [nextOk, isT, isI, and_assoc]

theorem nextN_mono {a m g l d t x u y : Int} (h : nextOk a m g l d t x = true) (htu : t ≤ u) (hxy : x ≤ y) : nextN a m g l d t x ≤ nextN a m g l d u y := by
  obtain ⟨hv, ht, hx⟩ := nextOk_iff.1 h
  unfold nextN
  split
  · exact htu
  · rename_i hz
    obtain ⟨b1, b2, b3, b4, b5, b6, b7, b8, b9, b10⟩ := bound_of hv (by simpa using hz)
    exact next_mono b5 b7 b9 hx.1 hxy htu

theorem nextN_rest {a m g l d t : Int} (h : nextOk a m g l d t 0 = true) (ht : a ≤ t) : nextN a m g l d t 0 ≤ t := by
  obtain ⟨hv, _, hx⟩ := nextOk_iff.1 h
  unfold nextN
  split
  · exact Int.le_refl _
  · rename_i hz
    obtain ⟨b1, b2, b3, b4, b5, b6, b7, b8, b9, b10⟩ := bound_of hv (by simpa using hz)
    exact next_rest b7 b9 ht

theorem nextN_amb {a m g l d t x : Int} (h : nextOk a m g l d t x = true) (ht : a ≤ t) : a ≤ nextN a m g l d t x := by
  obtain ⟨hv, _, hx⟩ := nextOk_iff.1 h
  unfold nextN
  split
  · exact ht
  · rename_i hz
    obtain ⟨b1, b2, b3, b4, b5, b6, b7, b8, b9, b10⟩ := bound_of hv (by simpa using hz)
    exact next_ge (heat_range b5 b6 hx.1 hx.2).2.2.1 b7 b9 ht (Int.le_refl _)

theorem nextV_two (a m g l d t x : Int) : ∃ k j : Int, nextV a m g l d t x = .tuple #[.int .i64 k, .int .i64 j] := by
  rcases nextV_cases a m g l d t x with h | h | h <;> exact ⟨_, _, h.1⟩

theorem next_facts {a m g l d t x n i : Int} (h : nextV a m g l d t x = .tuple #[.int .i64 n, .int .i64 i]) : (nextOk a m g l d t x = false ∧ i = 1) ∨ (nextOk a m g l d t x = true ∧ i = 3) ∨ (nextOk a m g l d t x = true ∧ i = 0 ∧ n = nextN a m g l d t x) := by
  rcases nextV_cases a m g l d t x with ⟨e, k⟩ | ⟨e, k⟩ | ⟨e, k⟩ <;> rw [e] at h <;> injection h with h <;> injection h with h <;> injection h with h1 h2 <;> injection h2 with h2 h3 <;> injection h1 <;> injection h2 <;> subst_vars
  · exact .inl ⟨k, rfl⟩
  · exact .inr (.inl ⟨k, rfl⟩)
  · exact .inr (.inr ⟨k, rfl, rfl⟩)

theorem warmer_plain {a m g l d t u x y n i k j : Int} (hr : nextV a m g l d t x = .tuple #[.int .i64 n, .int .i64 i]) (hs : nextV a m g l d u y = .tuple #[.int .i64 k, .int .i64 j]) (htu : t ≤ u) (hxy : x ≤ y) :
    (validC a m g l d = false ∧ i = 1) ∨ (validC a m g l d = true ∧ (i == 0) = false) ∨ (validC a m g l d = true ∧ i = 0 ∧ (j == 0) = false) ∨ (validC a m g l d = true ∧ i = 0 ∧ j = 0 ∧ n ≤ k) := by
  cases hv : validC a m g l d with
  | false =>
    rcases next_facts hr with ⟨_, h⟩ | ⟨h, _⟩ | ⟨h, _⟩
    · exact .inl ⟨rfl, h⟩
    · rw [(nextOk_iff.1 h).1] at hv; cases hv
    · rw [(nextOk_iff.1 h).1] at hv; cases hv
  | true =>
    right
    rcases next_facts hr with ⟨_, rfl⟩ | ⟨_, rfl⟩ | ⟨h, rfl, rfl⟩
    · exact .inl ⟨rfl, rfl⟩
    · exact .inl ⟨rfl, rfl⟩
    · right
      rcases next_facts hs with ⟨_, rfl⟩ | ⟨_, rfl⟩ | ⟨h', rfl, rfl⟩
      · exact .inl ⟨rfl, rfl, rfl⟩
      · exact .inl ⟨rfl, rfl, rfl⟩
      · exact .inr ⟨rfl, rfl, rfl, nextN_mono h htu hxy⟩

set_option maxHeartbeats 4000000 in
theorem CableWarmer_any (a m g l d t u x y : Int) (w : World) : Calls Try.prog 5 #[cabV a m g l d, .int .i64 t, .int .i64 u, .int .i64 x, .int .i64 y] w (Ret (.bool true) w) := by
  rcases Int.lt_trichotomy t u with htu | rfl | htu <;> rcases Int.lt_trichotomy x y with hxy | rfl | hxy
  · obtain ⟨n, i, hr⟩ := nextV_two a m g l d t x
    obtain ⟨k, j, hs⟩ := nextV_two a m g l d u y
    have HR := Lib.hid hr
    have HS := Lib.hid hs
    have HP := Lib.hid (warmer_plain hr hs (by omega) (by omega))
    clear hr hs
    go_enter Try.func5, Try.ntmps5
    go_wp2_with fail
    refine (head_any _).mono ?_
    rintro e w1 ⟨rfl, hb⟩
    have HX := Lib.hid ((CB.new w a m g l d).later hb)
    clear hb
    obtain ⟨c0, c1, c2, c3, c4⟩ := HX.out.cells
    go_wp2_with fail
    refine (next_any a m g l d t x _).mono ?_
    rintro e w1 ⟨rfl, hb⟩
    replace HX := Lib.hid (HX.out.later hb)
    clear hb c0 c1 c2 c3 c4
    obtain ⟨c0, c1, c2, c3, c4⟩ := HX.out.cells
    rw [HR.out]
    go_wp2_with fail
    refine (next_any a m g l d u y _).mono ?_
    rintro e w1 ⟨rfl, hb⟩
    replace HX := Lib.hid (HX.out.later hb)
    clear hb c0 c1 c2 c3 c4
    obtain ⟨c0, c1, c2, c3, c4⟩ := HX.out.cells
    rw [HS.out]
    rcases HP.out with ⟨hv, rfl⟩ | ⟨hv, hi⟩ | ⟨hv, rfl, hj⟩ | ⟨hv, rfl, rfl, hnk⟩
    · have HV := Lib.hid hv
      clear hv HP HR HS
      go_wp2_with fail
      refine (refValid_any a m g l d _).mono ?_
      rintro e w1 ⟨rfl, hb⟩
      replace HX := Lib.hid (HX.out.later hb)
      clear hb c0 c1 c2 c3 c4
      rw [HV.out]
      go_wp2
      go_ret
      exact ⟨rfl, HX.out.below⟩
    · have HV := Lib.hid hv
      clear hv HP HR HS
      go_wp2_with fail
      refine (refValid_any a m g l d _).mono ?_
      rintro e w1 ⟨rfl, hb⟩
      replace HX := Lib.hid (HX.out.later hb)
      clear hb c0 c1 c2 c3 c4
      rw [HV.out]
      go_wp2
      go_ret
      exact ⟨rfl, HX.out.below⟩
    · have HV := Lib.hid hv
      clear hv HP HR HS
      go_wp2_with fail
      refine (refValid_any a m g l d _).mono ?_
      rintro e w1 ⟨rfl, hb⟩
      replace HX := Lib.hid (HX.out.later hb)
      clear hb c0 c1 c2 c3 c4
      rw [HV.out]
      go_wp2
      go_ret
      exact ⟨rfl, HX.out.below⟩
    · have HV := Lib.hid hv
      clear hv HP HR HS
      go_wp2
      go_ret
      exact ⟨rfl, HX.out.below⟩
  · obtain ⟨n, i, hr⟩ := nextV_two a m g l d t x
    obtain ⟨k, j, hs⟩ := nextV_two a m g l d u x
    have HR := Lib.hid hr
    have HS := Lib.hid hs
    have HP := Lib.hid (warmer_plain hr hs (by omega) (by omega))
    clear hr hs
    go_enter Try.func5, Try.ntmps5
    go_wp2_with fail
    refine (head_any _).mono ?_
    rintro e w1 ⟨rfl, hb⟩
    have HX := Lib.hid ((CB.new w a m g l d).later hb)
    clear hb
    obtain ⟨c0, c1, c2, c3, c4⟩ := HX.out.cells
    go_wp2_with fail
    refine (next_any a m g l d t x _).mono ?_
    rintro e w1 ⟨rfl, hb⟩
    replace HX := Lib.hid (HX.out.later hb)
    clear hb c0 c1 c2 c3 c4
    obtain ⟨c0, c1, c2, c3, c4⟩ := HX.out.cells
    rw [HR.out]
    go_wp2_with fail
    refine (next_any a m g l d u x _).mono ?_
    rintro e w1 ⟨rfl, hb⟩
    replace HX := Lib.hid (HX.out.later hb)
    clear hb c0 c1 c2 c3 c4
    obtain ⟨c0, c1, c2, c3, c4⟩ := HX.out.cells
    rw [HS.out]
    rcases HP.out with ⟨hv, rfl⟩ | ⟨hv, hi⟩ | ⟨hv, rfl, hj⟩ | ⟨hv, rfl, rfl, hnk⟩
    · have HV := Lib.hid hv
      clear hv HP HR HS
      go_wp2_with fail
      refine (refValid_any a m g l d _).mono ?_
      rintro e w1 ⟨rfl, hb⟩
      replace HX := Lib.hid (HX.out.later hb)
      clear hb c0 c1 c2 c3 c4
      rw [HV.out]
      go_wp2
      go_ret
      exact ⟨rfl, HX.out.below⟩
    · have HV := Lib.hid hv
      clear hv HP HR HS
      go_wp2_with fail
      refine (refValid_any a m g l d _).mono ?_
      rintro e w1 ⟨rfl, hb⟩
      replace HX := Lib.hid (HX.out.later hb)
      clear hb c0 c1 c2 c3 c4
      rw [HV.out]
      go_wp2
      go_ret
      exact ⟨rfl, HX.out.below⟩
    · have HV := Lib.hid hv
      clear hv HP HR HS
      go_wp2_with fail
      refine (refValid_any a m g l d _).mono ?_
      rintro e w1 ⟨rfl, hb⟩
      replace HX := Lib.hid (HX.out.later hb)
      clear hb c0 c1 c2 c3 c4
      rw [HV.out]
      go_wp2
      go_ret
      exact ⟨rfl, HX.out.below⟩
    · have HV := Lib.hid hv
      clear hv HP HR HS
      go_wp2
      go_ret
      exact ⟨rfl, HX.out.below⟩
  · obtain ⟨n, i, hr⟩ := nextV_two a m g l d t y
    obtain ⟨k, j, hs⟩ := nextV_two a m g l d u x
    have HR := Lib.hid hr
    have HS := Lib.hid hs
    have HP := Lib.hid (warmer_plain hr hs (by omega) (by omega))
    clear hr hs
    go_enter Try.func5, Try.ntmps5
    go_wp2_with fail
    refine (head_any _).mono ?_
    rintro e w1 ⟨rfl, hb⟩
    have HX := Lib.hid ((CB.new w a m g l d).later hb)
    clear hb
    obtain ⟨c0, c1, c2, c3, c4⟩ := HX.out.cells
    go_wp2_with fail
    refine (next_any a m g l d t y _).mono ?_
    rintro e w1 ⟨rfl, hb⟩
    replace HX := Lib.hid (HX.out.later hb)
    clear hb c0 c1 c2 c3 c4
    obtain ⟨c0, c1, c2, c3, c4⟩ := HX.out.cells
    rw [HR.out]
    go_wp2_with fail
    refine (next_any a m g l d u x _).mono ?_
    rintro e w1 ⟨rfl, hb⟩
    replace HX := Lib.hid (HX.out.later hb)
    clear hb c0 c1 c2 c3 c4
    obtain ⟨c0, c1, c2, c3, c4⟩ := HX.out.cells
    rw [HS.out]
    rcases HP.out with ⟨hv, rfl⟩ | ⟨hv, hi⟩ | ⟨hv, rfl, hj⟩ | ⟨hv, rfl, rfl, hnk⟩
    · have HV := Lib.hid hv
      clear hv HP HR HS
      go_wp2_with fail
      refine (refValid_any a m g l d _).mono ?_
      rintro e w1 ⟨rfl, hb⟩
      replace HX := Lib.hid (HX.out.later hb)
      clear hb c0 c1 c2 c3 c4
      rw [HV.out]
      go_wp2
      go_ret
      exact ⟨rfl, HX.out.below⟩
    · have HV := Lib.hid hv
      clear hv HP HR HS
      go_wp2_with fail
      refine (refValid_any a m g l d _).mono ?_
      rintro e w1 ⟨rfl, hb⟩
      replace HX := Lib.hid (HX.out.later hb)
      clear hb c0 c1 c2 c3 c4
      rw [HV.out]
      go_wp2
      go_ret
      exact ⟨rfl, HX.out.below⟩
    · have HV := Lib.hid hv
      clear hv HP HR HS
      go_wp2_with fail
      refine (refValid_any a m g l d _).mono ?_
      rintro e w1 ⟨rfl, hb⟩
      replace HX := Lib.hid (HX.out.later hb)
      clear hb c0 c1 c2 c3 c4
      rw [HV.out]
      go_wp2
      go_ret
      exact ⟨rfl, HX.out.below⟩
    · have HV := Lib.hid hv
      clear hv HP HR HS
      go_wp2
      go_ret
      exact ⟨rfl, HX.out.below⟩
  · obtain ⟨n, i, hr⟩ := nextV_two a m g l d t x
    obtain ⟨k, j, hs⟩ := nextV_two a m g l d t y
    have HR := Lib.hid hr
    have HS := Lib.hid hs
    have HP := Lib.hid (warmer_plain hr hs (by omega) (by omega))
    clear hr hs
    go_enter Try.func5, Try.ntmps5
    go_wp2_with fail
    refine (head_any _).mono ?_
    rintro e w1 ⟨rfl, hb⟩
    have HX := Lib.hid ((CB.new w a m g l d).later hb)
    clear hb
    obtain ⟨c0, c1, c2, c3, c4⟩ := HX.out.cells
    go_wp2_with fail
    refine (next_any a m g l d t x _).mono ?_
    rintro e w1 ⟨rfl, hb⟩
    replace HX := Lib.hid (HX.out.later hb)
    clear hb c0 c1 c2 c3 c4
    obtain ⟨c0, c1, c2, c3, c4⟩ := HX.out.cells
    rw [HR.out]
    go_wp2_with fail
    refine (next_any a m g l d t y _).mono ?_
    rintro e w1 ⟨rfl, hb⟩
    replace HX := Lib.hid (HX.out.later hb)
    clear hb c0 c1 c2 c3 c4
    obtain ⟨c0, c1, c2, c3, c4⟩ := HX.out.cells
    rw [HS.out]
    rcases HP.out with ⟨hv, rfl⟩ | ⟨hv, hi⟩ | ⟨hv, rfl, hj⟩ | ⟨hv, rfl, rfl, hnk⟩
    · have HV := Lib.hid hv
      clear hv HP HR HS
      go_wp2_with fail
      refine (refValid_any a m g l d _).mono ?_
      rintro e w1 ⟨rfl, hb⟩
      replace HX := Lib.hid (HX.out.later hb)
      clear hb c0 c1 c2 c3 c4
      rw [HV.out]
      go_wp2
      go_ret
      exact ⟨rfl, HX.out.below⟩
    · have HV := Lib.hid hv
      clear hv HP HR HS
      go_wp2_with fail
      refine (refValid_any a m g l d _).mono ?_
      rintro e w1 ⟨rfl, hb⟩
      replace HX := Lib.hid (HX.out.later hb)
      clear hb c0 c1 c2 c3 c4
      rw [HV.out]
      go_wp2
      go_ret
      exact ⟨rfl, HX.out.below⟩
    · have HV := Lib.hid hv
      clear hv HP HR HS
      go_wp2_with fail
      refine (refValid_any a m g l d _).mono ?_
      rintro e w1 ⟨rfl, hb⟩
      replace HX := Lib.hid (HX.out.later hb)
      clear hb c0 c1 c2 c3 c4
      rw [HV.out]
      go_wp2
      go_ret
      exact ⟨rfl, HX.out.below⟩
    · have HV := Lib.hid hv
      clear hv HP HR HS
      go_wp2
      go_ret
      exact ⟨rfl, HX.out.below⟩
  · obtain ⟨n, i, hr⟩ := nextV_two a m g l d t x
    obtain ⟨k, j, hs⟩ := nextV_two a m g l d t x
    have HR := Lib.hid hr
    have HS := Lib.hid hs
    have HP := Lib.hid (warmer_plain hr hs (by omega) (by omega))
    clear hr hs
    go_enter Try.func5, Try.ntmps5
    go_wp2_with fail
    refine (head_any _).mono ?_
    rintro e w1 ⟨rfl, hb⟩
    have HX := Lib.hid ((CB.new w a m g l d).later hb)
    clear hb
    obtain ⟨c0, c1, c2, c3, c4⟩ := HX.out.cells
    go_wp2_with fail
    refine (next_any a m g l d t x _).mono ?_
    rintro e w1 ⟨rfl, hb⟩
    replace HX := Lib.hid (HX.out.later hb)
    clear hb c0 c1 c2 c3 c4
    obtain ⟨c0, c1, c2, c3, c4⟩ := HX.out.cells
    rw [HR.out]
    go_wp2_with fail
    refine (next_any a m g l d t x _).mono ?_
    rintro e w1 ⟨rfl, hb⟩
    replace HX := Lib.hid (HX.out.later hb)
    clear hb c0 c1 c2 c3 c4
    obtain ⟨c0, c1, c2, c3, c4⟩ := HX.out.cells
    rw [HS.out]
    rcases HP.out with ⟨hv, rfl⟩ | ⟨hv, hi⟩ | ⟨hv, rfl, hj⟩ | ⟨hv, rfl, rfl, hnk⟩
    · have HV := Lib.hid hv
      clear hv HP HR HS
      go_wp2_with fail
      refine (refValid_any a m g l d _).mono ?_
      rintro e w1 ⟨rfl, hb⟩
      replace HX := Lib.hid (HX.out.later hb)
      clear hb c0 c1 c2 c3 c4
      rw [HV.out]
      go_wp2
      go_ret
      exact ⟨rfl, HX.out.below⟩
    · have HV := Lib.hid hv
      clear hv HP HR HS
      go_wp2_with fail
      refine (refValid_any a m g l d _).mono ?_
      rintro e w1 ⟨rfl, hb⟩
      replace HX := Lib.hid (HX.out.later hb)
      clear hb c0 c1 c2 c3 c4
      rw [HV.out]
      go_wp2
      go_ret
      exact ⟨rfl, HX.out.below⟩
    · have HV := Lib.hid hv
      clear hv HP HR HS
      go_wp2_with fail
      refine (refValid_any a m g l d _).mono ?_
      rintro e w1 ⟨rfl, hb⟩
      replace HX := Lib.hid (HX.out.later hb)
      clear hb c0 c1 c2 c3 c4
      rw [HV.out]
      go_wp2
      go_ret
      exact ⟨rfl, HX.out.below⟩
    · have HV := Lib.hid hv
      clear hv HP HR HS
      go_wp2
      go_ret
      exact ⟨rfl, HX.out.below⟩
  · obtain ⟨n, i, hr⟩ := nextV_two a m g l d t y
    obtain ⟨k, j, hs⟩ := nextV_two a m g l d t x
    have HR := Lib.hid hr
    have HS := Lib.hid hs
    have HP := Lib.hid (warmer_plain hr hs (by omega) (by omega))
    clear hr hs
    go_enter Try.func5, Try.ntmps5
    go_wp2_with fail
    refine (head_any _).mono ?_
    rintro e w1 ⟨rfl, hb⟩
    have HX := Lib.hid ((CB.new w a m g l d).later hb)
    clear hb
    obtain ⟨c0, c1, c2, c3, c4⟩ := HX.out.cells
    go_wp2_with fail
    refine (next_any a m g l d t y _).mono ?_
    rintro e w1 ⟨rfl, hb⟩
    replace HX := Lib.hid (HX.out.later hb)
    clear hb c0 c1 c2 c3 c4
    obtain ⟨c0, c1, c2, c3, c4⟩ := HX.out.cells
    rw [HR.out]
    go_wp2_with fail
    refine (next_any a m g l d t x _).mono ?_
    rintro e w1 ⟨rfl, hb⟩
    replace HX := Lib.hid (HX.out.later hb)
    clear hb c0 c1 c2 c3 c4
    obtain ⟨c0, c1, c2, c3, c4⟩ := HX.out.cells
    rw [HS.out]
    rcases HP.out with ⟨hv, rfl⟩ | ⟨hv, hi⟩ | ⟨hv, rfl, hj⟩ | ⟨hv, rfl, rfl, hnk⟩
    · have HV := Lib.hid hv
      clear hv HP HR HS
      go_wp2_with fail
      refine (refValid_any a m g l d _).mono ?_
      rintro e w1 ⟨rfl, hb⟩
      replace HX := Lib.hid (HX.out.later hb)
      clear hb c0 c1 c2 c3 c4
      rw [HV.out]
      go_wp2
      go_ret
      exact ⟨rfl, HX.out.below⟩
    · have HV := Lib.hid hv
      clear hv HP HR HS
      go_wp2_with fail
      refine (refValid_any a m g l d _).mono ?_
      rintro e w1 ⟨rfl, hb⟩
      replace HX := Lib.hid (HX.out.later hb)
      clear hb c0 c1 c2 c3 c4
      rw [HV.out]
      go_wp2
      go_ret
      exact ⟨rfl, HX.out.below⟩
    · have HV := Lib.hid hv
      clear hv HP HR HS
      go_wp2_with fail
      refine (refValid_any a m g l d _).mono ?_
      rintro e w1 ⟨rfl, hb⟩
      replace HX := Lib.hid (HX.out.later hb)
      clear hb c0 c1 c2 c3 c4
      rw [HV.out]
      go_wp2
      go_ret
      exact ⟨rfl, HX.out.below⟩
    · have HV := Lib.hid hv
      clear hv HP HR HS
      go_wp2
      go_ret
      exact ⟨rfl, HX.out.below⟩
  · obtain ⟨n, i, hr⟩ := nextV_two a m g l d u x
    obtain ⟨k, j, hs⟩ := nextV_two a m g l d t y
    have HR := Lib.hid hr
    have HS := Lib.hid hs
    have HP := Lib.hid (warmer_plain hr hs (by omega) (by omega))
    clear hr hs
    go_enter Try.func5, Try.ntmps5
    go_wp2_with fail
    refine (head_any _).mono ?_
    rintro e w1 ⟨rfl, hb⟩
    have HX := Lib.hid ((CB.new w a m g l d).later hb)
    clear hb
    obtain ⟨c0, c1, c2, c3, c4⟩ := HX.out.cells
    go_wp2_with fail
    refine (next_any a m g l d u x _).mono ?_
    rintro e w1 ⟨rfl, hb⟩
    replace HX := Lib.hid (HX.out.later hb)
    clear hb c0 c1 c2 c3 c4
    obtain ⟨c0, c1, c2, c3, c4⟩ := HX.out.cells
    rw [HR.out]
    go_wp2_with fail
    refine (next_any a m g l d t y _).mono ?_
    rintro e w1 ⟨rfl, hb⟩
    replace HX := Lib.hid (HX.out.later hb)
    clear hb c0 c1 c2 c3 c4
    obtain ⟨c0, c1, c2, c3, c4⟩ := HX.out.cells
    rw [HS.out]
    rcases HP.out with ⟨hv, rfl⟩ | ⟨hv, hi⟩ | ⟨hv, rfl, hj⟩ | ⟨hv, rfl, rfl, hnk⟩
    · have HV := Lib.hid hv
      clear hv HP HR HS
      go_wp2_with fail
      refine (refValid_any a m g l d _).mono ?_
      rintro e w1 ⟨rfl, hb⟩
      replace HX := Lib.hid (HX.out.later hb)
      clear hb c0 c1 c2 c3 c4
      rw [HV.out]
      go_wp2
      go_ret
      exact ⟨rfl, HX.out.below⟩
    · have HV := Lib.hid hv
      clear hv HP HR HS
      go_wp2_with fail
      refine (refValid_any a m g l d _).mono ?_
      rintro e w1 ⟨rfl, hb⟩
      replace HX := Lib.hid (HX.out.later hb)
      clear hb c0 c1 c2 c3 c4
      rw [HV.out]
      go_wp2
      go_ret
      exact ⟨rfl, HX.out.below⟩
    · have HV := Lib.hid hv
      clear hv HP HR HS
      go_wp2_with fail
      refine (refValid_any a m g l d _).mono ?_
      rintro e w1 ⟨rfl, hb⟩
      replace HX := Lib.hid (HX.out.later hb)
      clear hb c0 c1 c2 c3 c4
      rw [HV.out]
      go_wp2
      go_ret
      exact ⟨rfl, HX.out.below⟩
    · have HV := Lib.hid hv
      clear hv HP HR HS
      go_wp2
      go_ret
      exact ⟨rfl, HX.out.below⟩
  · obtain ⟨n, i, hr⟩ := nextV_two a m g l d u x
    obtain ⟨k, j, hs⟩ := nextV_two a m g l d t x
    have HR := Lib.hid hr
    have HS := Lib.hid hs
    have HP := Lib.hid (warmer_plain hr hs (by omega) (by omega))
    clear hr hs
    go_enter Try.func5, Try.ntmps5
    go_wp2_with fail
    refine (head_any _).mono ?_
    rintro e w1 ⟨rfl, hb⟩
    have HX := Lib.hid ((CB.new w a m g l d).later hb)
    clear hb
    obtain ⟨c0, c1, c2, c3, c4⟩ := HX.out.cells
    go_wp2_with fail
    refine (next_any a m g l d u x _).mono ?_
    rintro e w1 ⟨rfl, hb⟩
    replace HX := Lib.hid (HX.out.later hb)
    clear hb c0 c1 c2 c3 c4
    obtain ⟨c0, c1, c2, c3, c4⟩ := HX.out.cells
    rw [HR.out]
    go_wp2_with fail
    refine (next_any a m g l d t x _).mono ?_
    rintro e w1 ⟨rfl, hb⟩
    replace HX := Lib.hid (HX.out.later hb)
    clear hb c0 c1 c2 c3 c4
    obtain ⟨c0, c1, c2, c3, c4⟩ := HX.out.cells
    rw [HS.out]
    rcases HP.out with ⟨hv, rfl⟩ | ⟨hv, hi⟩ | ⟨hv, rfl, hj⟩ | ⟨hv, rfl, rfl, hnk⟩
    · have HV := Lib.hid hv
      clear hv HP HR HS
      go_wp2_with fail
      refine (refValid_any a m g l d _).mono ?_
      rintro e w1 ⟨rfl, hb⟩
      replace HX := Lib.hid (HX.out.later hb)
      clear hb c0 c1 c2 c3 c4
      rw [HV.out]
      go_wp2
      go_ret
      exact ⟨rfl, HX.out.below⟩
    · have HV := Lib.hid hv
      clear hv HP HR HS
      go_wp2_with fail
      refine (refValid_any a m g l d _).mono ?_
      rintro e w1 ⟨rfl, hb⟩
      replace HX := Lib.hid (HX.out.later hb)
      clear hb c0 c1 c2 c3 c4
      rw [HV.out]
      go_wp2
      go_ret
      exact ⟨rfl, HX.out.below⟩
    · have HV := Lib.hid hv
      clear hv HP HR HS
      go_wp2_with fail
      refine (refValid_any a m g l d _).mono ?_
      rintro e w1 ⟨rfl, hb⟩
      replace HX := Lib.hid (HX.out.later hb)
      clear hb c0 c1 c2 c3 c4
      rw [HV.out]
      go_wp2
      go_ret
      exact ⟨rfl, HX.out.below⟩
    · have HV := Lib.hid hv
      clear hv HP HR HS
      go_wp2
      go_ret
      exact ⟨rfl, HX.out.below⟩
  · obtain ⟨n, i, hr⟩ := nextV_two a m g l d u y
    obtain ⟨k, j, hs⟩ := nextV_two a m g l d t x
    have HR := Lib.hid hr
    have HS := Lib.hid hs
    have HP := Lib.hid (warmer_plain hr hs (by omega) (by omega))
    clear hr hs
    go_enter Try.func5, Try.ntmps5
    go_wp2_with fail
    refine (head_any _).mono ?_
    rintro e w1 ⟨rfl, hb⟩
    have HX := Lib.hid ((CB.new w a m g l d).later hb)
    clear hb
    obtain ⟨c0, c1, c2, c3, c4⟩ := HX.out.cells
    go_wp2_with fail
    refine (next_any a m g l d u y _).mono ?_
    rintro e w1 ⟨rfl, hb⟩
    replace HX := Lib.hid (HX.out.later hb)
    clear hb c0 c1 c2 c3 c4
    obtain ⟨c0, c1, c2, c3, c4⟩ := HX.out.cells
    rw [HR.out]
    go_wp2_with fail
    refine (next_any a m g l d t x _).mono ?_
    rintro e w1 ⟨rfl, hb⟩
    replace HX := Lib.hid (HX.out.later hb)
    clear hb c0 c1 c2 c3 c4
    obtain ⟨c0, c1, c2, c3, c4⟩ := HX.out.cells
    rw [HS.out]
    rcases HP.out with ⟨hv, rfl⟩ | ⟨hv, hi⟩ | ⟨hv, rfl, hj⟩ | ⟨hv, rfl, rfl, hnk⟩
    · have HV := Lib.hid hv
      clear hv HP HR HS
      go_wp2_with fail
      refine (refValid_any a m g l d _).mono ?_
      rintro e w1 ⟨rfl, hb⟩
      replace HX := Lib.hid (HX.out.later hb)
      clear hb c0 c1 c2 c3 c4
      rw [HV.out]
      go_wp2
      go_ret
      exact ⟨rfl, HX.out.below⟩
    · have HV := Lib.hid hv
      clear hv HP HR HS
      go_wp2_with fail
      refine (refValid_any a m g l d _).mono ?_
      rintro e w1 ⟨rfl, hb⟩
      replace HX := Lib.hid (HX.out.later hb)
      clear hb c0 c1 c2 c3 c4
      rw [HV.out]
      go_wp2
      go_ret
      exact ⟨rfl, HX.out.below⟩
    · have HV := Lib.hid hv
      clear hv HP HR HS
      go_wp2_with fail
      refine (refValid_any a m g l d _).mono ?_
      rintro e w1 ⟨rfl, hb⟩
      replace HX := Lib.hid (HX.out.later hb)
      clear hb c0 c1 c2 c3 c4
      rw [HV.out]
      go_wp2
      go_ret
      exact ⟨rfl, HX.out.below⟩
    · have HV := Lib.hid hv
      clear hv HP HR HS
      go_wp2
      go_ret
      exact ⟨rfl, HX.out.below⟩

end Go.Proofs.Ytmiedlgcdkggdaa
