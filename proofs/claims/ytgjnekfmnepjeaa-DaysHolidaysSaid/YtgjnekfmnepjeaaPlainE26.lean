/- Chapter 26 in plain Lean: one holiday more. -/
import Derived.Test.YtgjnekfmnepjeaaPlainB26
namespace Go.Proofs.Ytgjnekfmnepjeaa

/-- The list with h in its place. -/
def insU (h : Int) : List Int → List Int
  | [] => [h]
  | d :: ds => if h ≤ d then h :: (d :: ds).filter (fun x => decide (x ≠ h)) else d :: insU h ds

/-- What the loop will have made, with xs made, and the rest to come. -/
def insTo (h : Int) (xs : List Int) (dn : Bool) (rest : List Int) : List Int := if dn then xs ++ rest.filter (fun x => decide (x ≠ h)) else xs ++ insU h rest

theorem insTo_low {h d : Int} {xs rest : List Int} {dn : Bool} (hd : ¬ h ≤ d) : insTo h xs dn (d :: rest) = insTo h (xs ++ [d]) dn rest := by
  have hne : d ≠ h := by omega
  cases dn with
  | true => simp [insTo, hne]
  | false => simp [insTo, insU, hd]

theorem insTo_other {h d : Int} {xs rest : List Int} (hd : d ≠ h) : insTo h xs true (d :: rest) = insTo h (xs ++ [d]) true rest := by simp [insTo, hd]
theorem insTo_same {h d : Int} {xs rest : List Int} (hd : d = h) : insTo h xs true (d :: rest) = insTo h xs true rest := by simp [insTo, hd]
theorem insTo_put {h d : Int} {xs rest : List Int} (hd : h ≤ d) : insTo h xs false (d :: rest) = insTo h (xs ++ [h]) true (d :: rest) := by
  simp only [insTo, insU, if_pos hd]
  simp
theorem insTo_end {h : Int} {xs : List Int} : insTo h xs true [] = xs := by simp [insTo]
theorem insTo_last {h : Int} {xs : List Int} : insTo h xs false [] = xs ++ [h] := by simp [insTo, insU]

theorem mem_insU {h x : Int} : ∀ {hs : List Int}, x ∈ insU h hs ↔ x = h ∨ x ∈ hs
  | [] => by simp [insU]
  | d :: ds => by
    unfold insU
    split
    · rw [List.mem_cons, List.mem_filter]
      by_cases hx : x = h
      · simp [hx]
      · simp [hx]
    · rw [List.mem_cons, mem_insU, List.mem_cons]
      constructor
      · rintro (h | h | h)
        · exact .inr (.inl h)
        · exact .inl h
        · exact .inr (.inr h)
      · rintro (h | h | h)
        · exact .inr (.inl h)
        · exact .inl h
        · exact .inr (.inr h)

theorem incr_filter {most : Int} {p : Int → Bool} : ∀ {ks : List Int} {b b' : Int}, incr most b ks = true → (∀ k ∈ ks.filter p, b' < k) → incr most b' (ks.filter p) = true
  | [], _, _, _, _ => rfl
  | x :: xs, b, b', h, h' => by
    simp only [incr, Bool.and_eq_true, decide_eq_true_eq] at h
    by_cases hp : p x = true
    · rw [List.filter_cons_of_pos hp] at h' ⊢
      rw [incr, decide_eq_true (h' x (List.mem_cons_self ..)), decide_eq_true h.1.2, Bool.and_self, Bool.true_and]
      exact incr_filter h.2 fun k hk => (incr_gt h.2 k (List.mem_filter.1 hk).1).1
    · rw [List.filter_cons_of_neg hp] at h' ⊢
      exact incr_filter h.2 h'

theorem insU_incr {most h : Int} (hm : h ≤ most) : ∀ {hs : List Int} {b : Int}, incr most b hs = true → b < h → incr most b (insU h hs) = true
  | [], b, _, hb => by simp [insU, incr, hb, hm]
  | d :: ds, b, hi, hb => by
    have hi' := hi
    simp only [incr, Bool.and_eq_true, decide_eq_true_eq] at hi'
    unfold insU
    split
    · rename_i hd
      rw [incr, decide_eq_true hb, decide_eq_true hm, Bool.and_self, Bool.true_and]
      refine incr_filter hi fun k hk => ?_
      obtain ⟨h1, h2⟩ := List.mem_filter.1 hk
      simp only [ne_eq, decide_not, Bool.not_eq_true', decide_eq_false_iff_not] at h2
      rcases List.mem_cons.1 h1 with rfl | h1
      · omega
      · have := (incr_gt hi'.2 k h1).1
        omega
    · rename_i hd
      rw [incr, decide_eq_true hi'.1.1, decide_eq_true hi'.1.2, Bool.and_self, Bool.true_and]
      exact insU_incr hm hi'.2 (by omega)

theorem insU_has {h x : Int} {hs : List Int} (hx : x ≠ h) : (insU h hs).contains x = hs.contains x := by
  rw [Bool.eq_iff_iff]
  simp [mem_insU, hx]

theorem insU_self {h : Int} {hs : List Int} : (insU h hs).contains h = true := by simp [mem_insU]

theorem insU_pos {h : Int} {hs : List Int} : 0 < (insU h hs).length := List.length_pos_of_mem (mem_insU.2 (.inl rfl))

theorem valid_more {o : Int} {cs : List (Int × Int)} {hs L : List Int} (h : validCal o cs hs = true) (hl : L.length ≤ 32) (hi : incr 36500 (-1) L = true) : validCal o cs L = true := by
  obtain ⟨h1, _, h3, h4, h5, _⟩ := valid_parts h
  exact valid_mk h1 hl h3 (by rw [List.all_eq_true]; exact h4) h5 hi

end Go.Proofs.Ytgjnekfmnepjeaa
