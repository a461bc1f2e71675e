/- Chapter 26 in plain Lean: where a key stands in an increasing list. -/
import Derived.Test.YtgjnekfmnepjeaaPlain26
namespace Go.Proofs.Ytgjnekfmnepjeaa

theorem incr_gt {most : Int} : ∀ {ks : List Int} {b : Int}, incr most b ks = true → ∀ k ∈ ks, b < k ∧ k ≤ most
  | [], _, _, k, hk => by cases hk
  | x :: xs, b, h, k, hk => by
    simp only [incr, Bool.and_eq_true, decide_eq_true_eq] at h
    rcases List.mem_cons.1 hk with rfl | hk
    · exact h.1
    · have := incr_gt h.2 k hk
      omega

theorem getD_mem {l : List Int} {i : Nat} (h : i < l.length) : l.getD i 0 ∈ l := by
  rw [List.getD_eq_getElem?_getD, List.getElem?_eq_getElem h]
  exact List.getElem_mem h

theorem cut_zero {ks : List Int} {n : Int} (h : ∀ k ∈ ks, n < k) : Cut ks n 0 :=
  ⟨Nat.zero_le _, fun _ h => absurd h (Nat.not_lt_zero _), fun _ _ hl => h _ (getD_mem hl)⟩

theorem cut_succ {ks : List Int} {n x : Int} {c : Nat} (hx : x ≤ n) (h : Cut ks n c) : Cut (x :: ks) n (c + 1) := by
  refine ⟨by have := h.len; simp; omega, fun i hi => ?_, fun i hi hl => ?_⟩
  · cases i with
    | zero => exact hx
    | succ i => exact h.low i (by omega)
  · cases i with
    | zero => omega
    | succ i => exact h.high i (by omega) (by simpa using hl)

theorem offAt_gt {m : Int} : ∀ {cs : List (Int × Int)} {o : Int}, (∀ x ∈ cs, m < x.1) → offAt m o cs = o
  | [], _, _ => rfl
  | x :: xs, o, h => by
    rw [offAt, if_neg (by have := h x (List.mem_cons_self ..); omega)]
    exact offAt_gt fun y hy => h y (List.mem_cons_of_mem _ hy)

theorem cut_off {most m : Int} : ∀ {cs : List (Int × Int)} {b o : Int}, incr most b (cs.map (·.1)) = true →
    ∃ c, Cut (cs.map (·.1)) m c ∧ (c = 0 → offAt m o cs = o) ∧ ∀ j, c = j + 1 → offAt m o cs = (cs.getD j (0, 0)).2
  | [], _, _, _ => ⟨0, cut_zero (by simp), fun _ => rfl, fun j h => by omega⟩
  | x :: xs, b, o, h => by
    simp only [List.map_cons, incr, Bool.and_eq_true, decide_eq_true_eq] at h
    by_cases hx : x.1 ≤ m
    · obtain ⟨c, hc, h0, h1⟩ := cut_off (o := x.2) (m := m) h.2
      refine ⟨c + 1, by rw [List.map_cons]; exact cut_succ hx hc, fun h => by omega, fun j hj => ?_⟩
      obtain rfl : c = j := by omega
      rw [offAt, if_pos hx]
      cases c with
      | zero => exact h0 rfl
      | succ i => exact h1 i rfl
    · have hall : ∀ k ∈ (x :: xs).map (·.1), m < k := by
        intro k hk
        rcases List.mem_cons.1 (show k ∈ x.1 :: xs.map (·.1) from hk) with rfl | hk
        · omega
        · have := incr_gt h.2 k hk
          omega
      exact ⟨0, cut_zero hall, fun _ => offAt_gt fun y hy => hall _ (List.mem_map.2 ⟨y, hy, rfl⟩), fun j h => by omega⟩

theorem cut_has {most d : Int} : ∀ {hs : List Int} {b : Int}, incr most b hs = true →
    ∃ c, Cut hs d c ∧ (c = 0 → hs.contains d = false) ∧ ∀ j, c = j + 1 → hs.contains d = (hs.getD j 0 == d)
  | [], _, _ => ⟨0, cut_zero (by simp), fun _ => rfl, fun j h => by omega⟩
  | x :: xs, b, h => by
    simp only [incr, Bool.and_eq_true, decide_eq_true_eq] at h
    by_cases hx : x ≤ d
    · obtain ⟨c, hc, h0, h1⟩ := cut_has (d := d) h.2
      refine ⟨c + 1, cut_succ hx hc, fun h => by omega, fun j hj => ?_⟩
      obtain rfl : c = j := by omega
      rw [List.contains_cons]
      cases c with
      | zero => rw [h0 rfl, Bool.or_false]; exact Bool.beq_comm
      | succ i =>
        rw [h1 i rfl]
        have h2 := hc.low i (by omega)
        have h3 := incr_gt h.2 _ (getD_mem (l := xs) (i := i) (by have := hc.len; omega))
        rw [show (d == x) = false by simp; omega]
        rfl
    · have hall : ∀ k ∈ x :: xs, d < k := by
        intro k hk
        rcases List.mem_cons.1 hk with rfl | hk
        · omega
        · have := incr_gt h.2 k hk
          omega
      refine ⟨0, cut_zero hall, fun _ => ?_, fun j h => by omega⟩
      rw [Bool.eq_false_iff]
      intro hcon
      have := hall d (by simpa using hcon)
      omega

theorem valid_parts {o : Int} {cs : List (Int × Int)} {hs : List Int} (h : validCal o cs hs = true) :
    cs.length ≤ 16 ∧ hs.length ≤ 32 ∧ inBand o (-1440) 1440 = true ∧ (∀ x ∈ cs, inBand x.2 (-1440) 1440 = true) ∧ incr 52560000 (-1) (cs.map (·.1)) = true ∧ incr 36500 (-1) hs = true := by
  unfold validCal at h
  simp only [Bool.and_eq_true, decide_eq_true_eq, List.all_eq_true] at h
  obtain ⟨⟨⟨⟨⟨h1, h2⟩, h3⟩, h4⟩, h5⟩, h6⟩ := h
  exact ⟨h1, h2, h3, h4, h5, h6⟩

theorem band_iff {n a b : Int} : inBand n a b = true ↔ a ≤ n ∧ n ≤ b := by simp [inBand]

theorem offAt_band {m : Int} : ∀ {cs : List (Int × Int)} {o : Int}, inBand o (-1440) 1440 = true → (∀ x ∈ cs, inBand x.2 (-1440) 1440 = true) → inBand (offAt m o cs) (-1440) 1440 = true
  | [], _, h, _ => h
  | x :: xs, o, h, hall => by
    rw [offAt]
    refine offAt_band ?_ fun y hy => hall y (List.mem_cons_of_mem _ hy)
    split
    · exact hall x (List.mem_cons_self ..)
    · exact h

end Go.Proofs.Ytgjnekfmnepjeaa
