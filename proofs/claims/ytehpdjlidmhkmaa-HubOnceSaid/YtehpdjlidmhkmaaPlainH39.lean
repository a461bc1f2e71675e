/- Chapter 39 in plain Lean: HubOnce. No statement about the program. -/
import Derived.Test.YtehpdjlidmhkmaaPlainG39
namespace Go.Proofs.Ytehpdjlidmhkmaa

/-- How many messages are of a sender. -/
def cntF (l : List Msg) (f : Int) : Nat := (l.filter fun t => decide (t.f = f)).length
theorem cntF_append (a b : List Msg) (f : Int) : cntF (a ++ b) f = cntF a f + cntF b f := by simp [cntF]
theorem cntF_le (a : List Msg) (f : Int) : cntF a f ≤ a.length := List.length_filter_le _ _
theorem cntF_all {a : List Msg} {f : Int} (h : ∀ t ∈ a, t.f = f) : cntF a f = a.length := by
  unfold cntF
  rw [List.filter_eq_self.2 (fun t ht => by simpa using h t ht)]
theorem cntF_none {a : List Msg} {f : Int} (h : ∀ t ∈ a, ¬ t.f = f) : cntF a f = 0 := by
  unfold cntF
  rw [List.filter_eq_nil_iff.2 (fun t ht => by simpa using h t ht)]
  rfl
/-- The message is the first one with its number. -/
def Fst (T : List Msg) (u : Msg) : Prop := ∃ p, p < T.length ∧ getM T p = u ∧ ∀ j, j < p → ¬ ((getM T j).f = u.f ∧ (getM T j).n = u.n)
theorem getM_left {a b : List Msg} {i : Nat} (h : i < a.length) : getM (a ++ b) i = getM a i := by simp [getM, List.getElem?_append_left h]
theorem getM_last (a : List Msg) (m : Msg) : getM (a ++ [m]) a.length = m := by simp [getM]
theorem getM_in {a : List Msg} {i : Nat} (h : i < a.length) : getM a i ∈ a := by
  have : getM a i = a[i] := by simp [getM, h]
  rw [this]
  exact List.getElem_mem h
theorem Fst.snoc {T : List Msg} {u : Msg} (h : Fst T u) (m : Msg) : Fst (T ++ [m]) u := by
  obtain ⟨p, hp, he, hj⟩ := h
  refine ⟨p, by simp; omega, by rw [getM_left hp]; exact he, fun j h => ?_⟩
  rw [getM_left (by omega)]
  exact hj j h
theorem mem_getM {a : List Msg} {t : Msg} (h : t ∈ a) : ∃ i, i < a.length ∧ getM a i = t := by
  obtain ⟨i, hi⟩ := List.getElem?_of_mem h
  exact ⟨i, (List.getElem?_eq_some_iff.1 hi).1, by simp [getM, hi]⟩
structure OnceAt (l : List Bx) (T O : List Msg) : Prop where
  valid : validL l = true
  old : ∀ t ∈ T, t.n < (ofF l t.f).x ∨ hasN (ofF l t.f).ws t.n = true
  cnt : ∀ f, (cntF O f : Int) + 1 = (ofF l f).x
  wait : ∀ f, ∀ t ∈ (ofF l f).ws, Fst T t
theorem OnceAt.start : OnceAt [] [] [] :=
  ⟨rfl, fun _ h => (by cases h), fun f => (by simp [ofF, cntF]), fun f t h => (by simp [ofF] at h)⟩
section
variable {l : List Bx} {T O : List Msg} {m : Msg}
theorem OnceAt.first (h : OnceAt l T O) (ht : Took l m) : Fst (T ++ [m]) m := by
  refine ⟨T.length, by simp, getM_last T m, fun j hj he => ?_⟩
  rw [getM_left hj] at he
  have h1 := h.old _ (getM_in hj)
  rw [he.1, he.2, ht.new] at h1
  have := ht.ge
  rcases h1 with h1 | h1
  · omega
  · cases h1
theorem over_f (ht : Took l m) {t : Msg} (h : t ∈ overOf l m) : t.f = m.f := by
  rw [ht.over] at h
  obtain ⟨i, hi, rfl⟩ := mem_getM h
  exact (ov_at ht.waits ht.ge hi).1
/-- Each message that is handed over. -/
theorem OnceAt.each (h : OnceAt l T O) (ht : Took l m) {k : Nat} (hk : k < (overOf l m).length) :
    Fst (T ++ [m]) (getM (overOf l m) k) ∧ (getM (overOf l m) k).n = 1 + (cntF (O ++ (overOf l m).take k) (getM (overOf l m) k).f : Nat) := by
  have hf := over_f ht (getM_in hk)
  have hk' : k < (ov (ofF l m.f) m).length := by rw [← ht.over]; exact hk
  have h1 := ov_at ht.waits ht.ge hk'
  rw [← ht.over] at h1
  refine ⟨?_, ?_⟩
  · rcases h1.2.2 with h2 | h2
    · rw [h2]; exact h.first ht
    · exact (h.wait m.f _ h2).snoc m
  · rw [hf, cntF_append, cntF_all (a := (overOf l m).take k) (fun t hm => over_f ht (List.mem_of_mem_take hm)), List.length_take, h1.2.1]
    have := h.cnt m.f
    omega
theorem OnceAt.step (h : OnceAt l T O) (ht : Took l m) : OnceAt (recvL l m) (T ++ [m]) (O ++ overOf l m) := by
  refine ⟨ht.valid, fun t hT => ?_, fun f => ?_, fun f t hw => ?_⟩
  · rw [ht.of]
    by_cases hf : t.f = m.f
    · rw [if_pos hf]
      refine old_keeps ht.ge ?_
      rcases List.mem_append.1 hT with hT | hT
      · have := h.old t hT
        rw [hf] at this
        rcases this with h' | h'
        · exact .inl h'
        · exact .inr (.inl h')
      · simp at hT
        subst hT
        exact .inr (.inr rfl)
    · rw [if_neg hf]
      rcases List.mem_append.1 hT with hT | hT
      · exact h.old t hT
      · simp at hT
        subst hT
        exact absurd rfl hf
  · rw [ht.of, cntF_append]
    have hc := h.cnt f
    by_cases hf : f = m.f
    · rw [if_pos hf]
      subst hf
      rw [nb_x, cntF_all (a := overOf l m) (fun t hm => over_f ht hm), ht.over]
      omega
    · rw [if_neg hf, cntF_none (a := overOf l m) (fun t hm e => hf (by rw [← e]; exact over_f ht hm))]
      omega
  · rw [ht.of] at hw
    by_cases hf : f = m.f
    · rw [if_pos hf] at hw
      rcases nb_ws hw with rfl | hw
      · exact h.first ht
      · exact (h.wait m.f t hw).snoc m
    · rw [if_neg hf] at hw
      exact (h.wait f t hw).snoc m
end
end Go.Proofs.Ytehpdjlidmhkmaa
