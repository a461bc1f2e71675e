/- Chapter 39 in plain Lean: what was taken and what was handed over. No statement about the program. -/
import Derived.Test.YtehpdjlidmhkmaaPlainF39
namespace Go.Proofs.Ytehpdjlidmhkmaa

section
variable {f : Int} {b : Bx} {m : Msg}
/-- Of the messages that wait, each is in the run, or waits on. -/
theorem run_or {x : Int} {ws : List Msg} {n : Int} (h : hasN ws n = true) : (∃ i, i < (runOf (x + 1) ws).length ∧ n = x + 1 + i) ∨ hasN (ws.drop (runOf (x + 1) ws).length) n = true := by
  rw [← List.take_append_drop (runOf (x + 1) ws).length ws, hasN_append, ← run_take, Bool.or_eq_true] at h
  rcases h with h | h
  · left
    rw [hasN_iff, nums, List.mem_map] at h
    obtain ⟨t, ht, rfl⟩ := h
    obtain ⟨i, hi⟩ := List.getElem?_of_mem ht
    obtain ⟨hlt, he⟩ := List.getElem?_eq_some_iff.1 hi
    have := run_num (x + 1) ws i hlt
    refine ⟨i, hlt, ?_⟩
    rw [← this]
    simp [getM, hi]
  · exact .inr h
/-- What was taken stays taken. -/
theorem old_keeps (hg : b.x ≤ m.n) {n : Int} (h : n < b.x ∨ hasN b.ws n = true ∨ n = m.n) : n < (nb b m).x ∨ hasN (nb b m).ws n = true := by
  unfold nb
  split
  · rename_i hx
    simp only
    rw [ins_has]
    rcases h with h | h | h
    · exact .inl h
    · right
      split
      · rfl
      · exact h
    · right
      rw [if_pos h]
  · rename_i hx
    have e : m.n = b.x := by omega
    simp only
    rw [e]
    rcases h with h | h | h
    · left
      omega
    · rcases run_or (x := b.x) h with ⟨i, hi, rfl⟩ | h
      · left
        omega
      · exact .inr h
    · left
      omega
/-- What is handed over: its place, its number, its sender. -/
theorem ov_at (hw : waitsOk m.f b.x b.ws = true) (hg : b.x ≤ m.n) {k : Nat} (hk : k < (ov b m).length) : (getM (ov b m) k).f = m.f ∧ (getM (ov b m) k).n = b.x + k ∧ (getM (ov b m) k = m ∨ getM (ov b m) k ∈ b.ws) := by
  unfold ov at hk ⊢
  split at hk
  · simp at hk
  · rename_i hx
    rw [if_neg hx]
    have e : m.n = b.x := by omega
    cases k with
    | zero => exact ⟨by simp [getM], by simp [getM, e], .inl (by simp [getM])⟩
    | succ k =>
      have hk' : k < (runOf (m.n + 1) b.ws).length := by simpa using hk
      have e0 : getM (m :: runOf (m.n + 1) b.ws) (k + 1) = getM (runOf (m.n + 1) b.ws) k := rfl
      have h1 := run_num (m.n + 1) b.ws k hk'
      have hmem : getM (runOf (m.n + 1) b.ws) k ∈ b.ws := by
        have h2 : getM (runOf (m.n + 1) b.ws) k ∈ runOf (m.n + 1) b.ws := by
          have : getM (runOf (m.n + 1) b.ws) k = (runOf (m.n + 1) b.ws)[k] := by simp [getM, hk']
          rw [this]
          exact List.getElem_mem hk'
        have hsub : ∀ t ∈ runOf (m.n + 1) b.ws, t ∈ b.ws := fun t ht => by
          rw [run_take] at ht
          exact List.mem_of_mem_take ht
        exact hsub _ h2
      rw [e0]
      refine ⟨?_, by rw [h1]; omega, .inr hmem⟩
      have hall : ∀ {ws : List Msg} {p : Int}, waitsOk m.f p ws = true → ∀ t ∈ ws, t.f = m.f := by
        intro ws
        induction ws with
        | nil => intro p _ t ht; cases ht
        | cons a as ih =>
          intro p hp t ht
          rw [waitsOk_cons] at hp
          rcases List.mem_cons.1 ht with rfl | ht
          · exact hp.2.1
          · exact ih hp.2.2.2 t ht
      exact hall hw _ hmem
theorem nb_x : (nb b m).x = b.x + (ov b m).length := by
  unfold nb ov
  split
  · simp
  · simp only [List.length_cons]
    omega
theorem nb_ws {t : Msg} (h : t ∈ (nb b m).ws) : t = m ∨ t ∈ b.ws := by
  unfold nb at h
  split at h
  · have hins : ∀ {l : List Msg}, t ∈ insM l m → t = m ∨ t ∈ l := by
      intro l
      induction l with
      | nil => intro h; rw [insM] at h; simpa using h
      | cons a as ih =>
        intro h
        rw [insM] at h
        split at h
        · exact (List.mem_cons.1 h)
        · rcases List.mem_cons.1 h with h | h
          · exact .inr (h ▸ List.mem_cons_self ..)
          · rcases ih h with h | h
            · exact .inl h
            · exact .inr (List.mem_cons_of_mem _ h)
    exact hins h
  · exact .inr (List.mem_of_mem_drop h)
end

/-! ### HubAll -/
def insS (S : Int → Int → Bool) (a c : Int) : Int → Int → Bool := fun a' c' => decide (a' = a ∧ c' = c) || S a' c'
def insL (S : Int → Int → Bool) : List Msg → Int → Int → Bool
  | [] => S
  | m :: ms => insL (insS S m.f m.n) ms
theorem insL_snoc (S : Int → Int → Bool) : ∀ (l : List Msg) (m : Msg), insL S (l ++ [m]) = insS (insL S l) m.f m.n
  | [], m => rfl
  | x :: xs, m => by rw [List.cons_append, insL, insL_snoc]; rfl
theorem insL_keep {S : Int → Int → Bool} {a c : Int} : ∀ {l : List Msg}, S a c = true → insL S l a c = true
  | [], h => h
  | x :: xs, h => by
    rw [insL]
    exact insL_keep (by unfold insS; rw [h]; simp)
theorem insL_mem {S : Int → Int → Bool} : ∀ {l : List Msg} {t : Msg}, t ∈ l → insL S l t.f t.n = true
  | [], _, h => by cases h
  | x :: xs, t, h => by
    rw [insL]
    rcases List.mem_cons.1 h with rfl | h
    · exact insL_keep (by unfold insS; simp)
    · exact insL_mem h

structure AllAt (l : List Bx) (T O : Int → Int → Bool) : Prop where
  valid : validL l = true
  old : ∀ f n, T f n = true → n < (ofF l f).x ∨ hasN (ofF l f).ws n = true
  over : ∀ f n, 1 ≤ n → n < (ofF l f).x → O f n = true
theorem AllAt.start : AllAt [] (fun _ _ => false) (fun _ _ => false) :=
  ⟨rfl, fun _ _ h => (by cases h), fun f n h1 h2 => by simp only [ofF] at h2; omega⟩
theorem AllAt.step {l : List Bx} {T O : Int → Int → Bool} {m : Msg} (h : AllAt l T O) (ht : Took l m) : AllAt (recvL l m) (insS T m.f m.n) (insL O (overOf l m)) := by
  refine ⟨ht.valid, fun f n hT => ?_, fun f n h1 h2 => ?_⟩
  · rw [ht.of]
    unfold insS at hT
    rw [Bool.or_eq_true, decide_eq_true_eq] at hT
    by_cases hf : f = m.f
    · rw [if_pos hf]
      subst hf
      refine old_keeps ht.ge ?_
      rcases hT with hT | hT
      · exact .inr (.inr hT.2)
      · rcases h.old _ _ hT with h' | h'
        · exact .inl h'
        · exact .inr (.inl h')
    · rw [if_neg hf]
      rcases hT with hT | hT
      · exact absurd hT.1 hf
      · exact h.old _ _ hT
  · rw [ht.of] at h2
    rw [ht.over]
    by_cases hf : f = m.f
    · rw [if_pos hf] at h2
      subst hf
      rw [nb_x] at h2
      by_cases hlt : n < (ofF l m.f).x
      · exact insL_keep (h.over _ _ h1 hlt)
      · obtain ⟨k, hk⟩ : ∃ k : Nat, n = (ofF l m.f).x + k := ⟨(n - (ofF l m.f).x).toNat, by omega⟩
        have hkl : k < (ov (ofF l m.f) m).length := by omega
        obtain ⟨g1, g2, _⟩ := ov_at ht.waits ht.ge hkl
        have hm : getM (ov (ofF l m.f) m) k ∈ ov (ofF l m.f) m := by
          have : getM (ov (ofF l m.f) m) k = (ov (ofF l m.f) m)[k] := by simp [getM, hkl]
          rw [this]
          exact List.getElem_mem hkl
        have := insL_mem (S := O) hm
        rw [g1, g2, ← hk] at this
        exact this
    · rw [if_neg hf] at h2
      exact insL_keep (h.over _ _ h1 h2)
/-- What was taken from 1 on, without a gap, was handed over. -/
theorem AllAt.next {l : List Bx} {T O : Int → Int → Bool} (h : AllAt l T O) {f n : Int} (hf : 0 ≤ f ∧ f ≤ 1000000) (h1 : 1 ≤ n) (hn : n ≤ (ofF l f).x) (hT : T f n = true) : O f n = true ∧ n + 1 ≤ (ofF l f).x ∧ (ofF l f).x ≤ 1000001 := by
  have hb := validB_iff.1 (ofF_valid (f := f) hf (validL_iff.1 h.valid).2.2)
  have hlt : n < (ofF l f).x := by
    rcases h.old f n hT with h' | h'
    · exact h'
    · rcases Int.lt_or_lt_of_ne (a := n) (b := (ofF l f).x) (fun e => by
        rw [hasN_lt hb.2.2 (by omega)] at h'
        cases h') with h'' | h''
      · exact h''
      · omega
  exact ⟨h.over f n h1 hlt, by omega, hb.2.1.2⟩
end Go.Proofs.Ytehpdjlidmhkmaa
