/- Chapter 39 in plain Lean: inboxes as a table by sender; what is valid stays valid. No statement about the program. -/
import Derived.Test.YtehpdjlidmhkmaaPlain39
namespace Go.Proofs.Ytehpdjlidmhkmaa

def put : List Bx → Bx → List Bx
  | [], b => [b]
  | x :: xs, b => if b.f < x.f then b :: x :: xs else if b.f = x.f then b :: xs else x :: put xs b
def hasF : List Bx → Int → Bool
  | [], _ => false
  | x :: xs, f => if x.f = f then true else hasF xs f
def ofF : List Bx → Int → Bx
  | [], f => ⟨f, 1, []⟩
  | x :: xs, f => if x.f = f then x else ofF xs f
def insM : List Msg → Msg → List Msg
  | [], m => [m]
  | x :: xs, m => if m.n < x.n then m :: x :: xs else x :: insM xs m
def hasN : List Msg → Int → Bool
  | [], _ => false
  | x :: xs, n => if x.n = n then true else hasN xs n

theorem fromsOk_cons {p : Int} {b : Bx} {bs : List Bx} : fromsOk p (b :: bs) = true ↔ p < b.f ∧ validB b = true ∧ fromsOk b.f bs = true := by
  simp [fromsOk, and_assoc]
theorem waitsOk_cons {f p : Int} {m : Msg} {ms : List Msg} : waitsOk f p (m :: ms) = true ↔ validM m = true ∧ m.f = f ∧ p < m.n ∧ waitsOk f m.n ms = true := by
  simp [waitsOk, and_assoc]
theorem fromsOk_mono {p q : Int} (h : q ≤ p) : ∀ {l : List Bx}, fromsOk p l = true → fromsOk q l = true
  | [], _ => rfl
  | b :: bs, hl => by
    rw [fromsOk_cons] at hl ⊢
    exact ⟨by omega, hl.2⟩
theorem waitsOk_mono {f p q : Int} (h : q ≤ p) : ∀ {l : List Msg}, waitsOk f p l = true → waitsOk f q l = true
  | [], _ => rfl
  | b :: bs, hl => by
    rw [waitsOk_cons] at hl ⊢
    exact ⟨hl.1, hl.2.1, by omega, hl.2.2.2⟩

/-! ### Senders -/
theorem hasF_lt {p f : Int} : ∀ {l : List Bx}, fromsOk p l = true → f ≤ p → hasF l f = false
  | [], _, _ => rfl
  | b :: bs, hl, hf => by
    rw [fromsOk_cons] at hl
    rw [hasF, if_neg (by omega)]
    exact hasF_lt hl.2.2 (by omega)
theorem ofF_none {f : Int} : ∀ {l : List Bx}, hasF l f = false → ofF l f = ⟨f, 1, []⟩
  | [], _ => rfl
  | b :: bs, h => by
    rw [hasF] at h
    rw [ofF]
    split at h
    · cases h
    · rename_i hne
      rw [if_neg hne]
      exact ofF_none h
theorem ofF_f (f : Int) : ∀ (l : List Bx), (ofF l f).f = f
  | [] => rfl
  | b :: bs => by
    rw [ofF]
    split
    · assumption
    · exact ofF_f f bs
theorem ofF_valid {p f : Int} (hf : 0 ≤ f ∧ f ≤ 1000000) : ∀ {l : List Bx}, fromsOk p l = true → validB (ofF l f) = true
  | [], _ => by simp [ofF, validB, waitsOk, hf]
  | b :: bs, h => by
    rw [fromsOk_cons] at h
    rw [ofF]
    split
    · exact h.2.1
    · exact ofF_valid hf h.2.2
theorem ofF_mem {f : Int} : ∀ {l : List Bx}, hasF l f = true → ofF l f ∈ l
  | [], h => by cases h
  | b :: bs, h => by
    rw [hasF] at h
    rw [ofF]
    split
    · exact List.mem_cons_self ..
    · rename_i hne
      rw [if_neg hne] at h
      exact List.mem_cons_of_mem _ (ofF_mem h)

theorem put_of (b : Bx) (f : Int) : ∀ l, ofF (put l b) f = if f = b.f then b else ofF l f
  | [] => by
    simp only [put, ofF]
    by_cases h : f = b.f
    · rw [if_pos h.symm, if_pos h]
    · rw [if_neg (fun e => h e.symm), if_neg h]
  | x :: xs => by
    have ih := put_of b f xs
    rw [put]
    split
    · rw [ofF]
      by_cases h : f = b.f
      · rw [if_pos h.symm, if_pos h]
      · rw [if_neg (fun e => h e.symm), if_neg h]
    · split
      · rw [ofF, ofF]
        by_cases h : f = b.f
        · rw [if_pos h.symm, if_pos h]
        · rw [if_neg (fun e => h e.symm), if_neg h, if_neg (by omega)]
      · rw [ofF, ofF, ih]
        by_cases h : f = b.f
        · rw [if_pos h, if_pos h, if_neg (by omega)]
        · rw [if_neg h, if_neg h]
theorem put_has (b : Bx) (f : Int) : ∀ l, hasF (put l b) f = if f = b.f then true else hasF l f
  | [] => by
    simp only [put, hasF]
    by_cases h : f = b.f
    · rw [if_pos h.symm, if_pos h]
    · rw [if_neg (fun e => h e.symm), if_neg h]
  | x :: xs => by
    have ih := put_has b f xs
    rw [put]
    split
    · rw [hasF]
      by_cases h : f = b.f
      · rw [if_pos h.symm, if_pos h]
      · rw [if_neg (fun e => h e.symm), if_neg h]
    · split
      · rw [hasF, hasF]
        by_cases h : f = b.f
        · rw [if_pos h.symm, if_pos h]
        · rw [if_neg (fun e => h e.symm), if_neg h, if_neg (by omega)]
      · rw [hasF, hasF, ih]
        by_cases h : f = b.f
        · rw [if_pos h, if_pos h, if_neg (by omega)]
        · rw [if_neg h, if_neg h]
theorem put_many (b : Bx) : ∀ {l : List Bx} {p : Int}, fromsOk p l = true → many (put l b) + (ofF l b.f).ws.length = many l + b.ws.length
  | [], _, _ => by simp [put, ofF, many]
  | x :: xs, p, h => by
    rw [fromsOk_cons] at h
    rw [put]
    split
    · have : hasF (x :: xs) b.f = false := hasF_lt (p := b.f) (by rw [fromsOk_cons]; exact ⟨by omega, h.2⟩) (Int.le_refl _)
      rw [ofF_none this, many_cons]
      simp only [List.length_nil]
      omega
    · split
      · rename_i he
        rw [ofF, if_pos he.symm, many_cons, many_cons]
        omega
      · rename_i he
        have := put_many b h.2.2
        rw [ofF, if_neg (fun e => he e.symm), many_cons, many_cons]
        omega
theorem put_length (b : Bx) : ∀ {l : List Bx} {p : Int}, fromsOk p l = true → (put l b).length = l.length + if hasF l b.f then 0 else 1
  | [], _, _ => by simp [put, hasF]
  | x :: xs, p, h => by
    rw [fromsOk_cons] at h
    rw [put]
    split
    · have : hasF (x :: xs) b.f = false := hasF_lt (p := b.f) (by rw [fromsOk_cons]; exact ⟨by omega, h.2⟩) (Int.le_refl _)
      rw [this]
      rfl
    · split
      · rename_i he
        rw [hasF, if_pos he.symm]
        rfl
      · rename_i he
        have := put_length b h.2.2
        have e2 : hasF (x :: xs) b.f = hasF xs b.f := by rw [hasF, if_neg (fun e => he e.symm)]
        rw [e2]
        simp only [List.length_cons]
        omega
theorem put_ok (b : Bx) (hb : validB b = true) : ∀ {l : List Bx} {p : Int}, fromsOk p l = true → p < b.f → fromsOk p (put l b) = true
  | [], p, _, hp => by rw [put, fromsOk_cons]; exact ⟨hp, hb, rfl⟩
  | x :: xs, p, h, hp => by
    rw [fromsOk_cons] at h
    rw [put]
    split
    · rw [fromsOk_cons]
      exact ⟨hp, hb, by rw [fromsOk_cons]; exact ⟨by assumption, h.2⟩⟩
    · split
      · rename_i he
        rw [fromsOk_cons]
        exact ⟨hp, hb, by rw [he]; exact h.2.2⟩
      · rw [fromsOk_cons]
        exact ⟨h.1, h.2.1, put_ok b hb h.2.2 (by omega)⟩
theorem put_comm {a b : Bx} (h : a.f ≠ b.f) : ∀ l, put (put l a) b = put (put l b) a
  | [] => by
    simp only [put]
    repeat' split
    all_goals first | rfl | omega
  | x :: xs => by
    have ih := put_comm h xs
    by_cases h1 : a.f < x.f <;> by_cases h2 : b.f < x.f <;> by_cases h3 : a.f = x.f <;> by_cases h4 : b.f = x.f <;> by_cases h5 : a.f < b.f <;> by_cases h6 : b.f < a.f <;> (try omega) <;>
      simp only [put, h1, h2, h3, h4, h5, h6, if_true, if_false, h, h.symm, Int.lt_irrefl, ih] <;> (try rfl) <;> (try (repeat' split)) <;> (try rfl) <;> (try omega)

/-- A place in the list: what is before it is less, what is from it on is not. -/
def CutF (l : List Bx) (f : Int) (k : Nat) : Prop := k ≤ l.length ∧ (∀ i, i < k → (getB l i).f < f) ∧ ∀ i, k ≤ i → i < l.length → f ≤ (getB l i).f
theorem CutF.tail {x : Bx} {xs : List Bx} {f : Int} {k : Nat} (h : CutF (x :: xs) f (k + 1)) : x.f < f ∧ CutF xs f k :=
  ⟨h.2.1 0 (by omega), by have := h.1; simp at this; omega, fun i hi => h.2.1 (i + 1) (by omega), fun i hi hl => h.2.2 (i + 1) (by omega) (by simp; omega)⟩
theorem froms_pair : ∀ {l : List Bx} {p : Int}, fromsOk p l = true → (froms l).Pairwise (· < ·) ∧ ∀ k ∈ froms l, p < k
  | [], _, _ => ⟨List.Pairwise.nil, fun _ h => by cases h⟩
  | x :: xs, p, h => by
    rw [fromsOk_cons] at h
    obtain ⟨h1, h2⟩ := froms_pair h.2.2
    refine ⟨List.pairwise_cons.2 ⟨h2, h1⟩, fun k hk => ?_⟩
    rcases List.mem_cons.1 hk with rfl | hk
    · exact h.1
    · have := h2 k hk
      omega
theorem froms_getD {l : List Bx} {i : Nat} (h : i < l.length) : (froms l).getD i 0 = (getB l i).f := by simp [froms, getB, h]
theorem cutF {l : List Bx} {p f : Int} (h : fromsOk p l = true) : CutF l f (atF l f) := by
  have hlen : (froms l).length = l.length := by simp [froms]
  have h1 := bs_le (ks := froms l) (n := f) l.length 0 l.length (by omega) (Nat.zero_le _)
  have h2 := bs_cut (n := f) (froms_pair h).1 l.length 0 l.length (by omega) (Nat.zero_le _) (by omega) (fun i hi => by omega) (fun i hi hi2 => by omega)
  exact ⟨h1.2, fun i hi => by rw [← froms_getD (by have := h1.2; unfold atF at hi; omega)]; exact h2.1 i hi, fun i hi hl => by rw [← froms_getD hl]; exact h2.2 i hi (by omega)⟩
theorem cut_put {b : Bx} : ∀ {l : List Bx} {k : Nat}, CutF l b.f k → (if k < l.length ∧ (getB l k).f = b.f then l.set k b else l.take k ++ b :: l.drop k) = put l b
  | [], k, h => by
    have := h.1
    simp at this
    subst this
    rfl
  | x :: xs, 0, h => by
    have := h.2.2 0 (Nat.le_refl _) (by simp)
    have e0 : (getB (x :: xs) 0).f = x.f := rfl
    rw [e0] at this ⊢
    rw [put]
    by_cases he : x.f = b.f
    · rw [if_pos ⟨by simp, he⟩, if_neg (by omega), if_pos he.symm]
      rfl
    · rw [if_neg (fun e => he e.2), if_pos (by omega)]
      rfl
  | x :: xs, k + 1, h => by
    obtain ⟨h1, h2⟩ := h.tail
    have ih := cut_put (b := b) h2
    have e : (getB (x :: xs) (k + 1)).f = (getB xs k).f := rfl
    have e3 : put (x :: xs) b = x :: put xs b := by rw [put, if_neg (by omega), if_neg (by omega)]
    rw [e3, ← ih, e]
    by_cases hc : k < xs.length ∧ (getB xs k).f = b.f
    · rw [if_pos hc, if_pos ⟨by simp; omega, hc.2⟩]
      rfl
    · rw [if_neg hc, if_neg (fun e => hc ⟨by have := e.1; simp at this; omega, e.2⟩)]
      rfl
theorem cut_has {f : Int} : ∀ {l : List Bx} {k : Nat} {p : Int}, fromsOk p l = true → CutF l f k → (hasF l f = true ↔ k < l.length ∧ (getB l k).f = f) ∧ (hasF l f = true → ofF l f = getB l k)
  | [], k, _, _, h => by simp [hasF]
  | x :: xs, 0, p, ho, h => by
    rw [fromsOk_cons] at ho
    have h0 := h.2.2 0 (Nat.le_refl _) (by simp)
    have e0 : getB (x :: xs) 0 = x := rfl
    rw [e0] at h0 ⊢
    rw [hasF, ofF]
    by_cases he : x.f = f
    · rw [if_pos he, if_pos he]
      exact ⟨⟨fun _ => ⟨by simp, he⟩, fun _ => rfl⟩, fun _ => rfl⟩
    · rw [if_neg he, hasF_lt ho.2.2 h0]
      exact ⟨⟨fun h => (by cases h), fun h => absurd h.2 he⟩, fun h => by cases h⟩
  | x :: xs, k + 1, p, ho, h => by
    rw [fromsOk_cons] at ho
    obtain ⟨h1, h2⟩ := h.tail
    obtain ⟨i1, i2⟩ := cut_has ho.2.2 h2
    have e : getB (x :: xs) (k + 1) = getB xs k := rfl
    rw [e, hasF, ofF, if_neg (by omega), if_neg (by omega)]
    refine ⟨i1.trans ⟨fun h => ⟨by simp; omega, h.2⟩, fun h => ⟨by have := h.1; simp at this; omega, h.2⟩⟩, i2⟩
theorem knownF_has {l : List Bx} {p f : Int} (h : fromsOk p l = true) : knownF l f = hasF l f := by
  have hc := (cut_has (f := f) h (cutF h)).1
  rw [Bool.eq_iff_iff, hc]
  unfold knownF
  simp only [decide_eq_true_eq]
  constructor
  · rintro ⟨h1, h2⟩
    exact ⟨h1, by rw [← froms_getD h1]; exact h2⟩
  · rintro ⟨h1, h2⟩
    exact ⟨h1, by rw [froms_getD h1]; exact h2⟩
theorem boxOf_eq {l : List Bx} {p f : Int} (h : fromsOk p l = true) : boxOf l f = ofF l f := by
  unfold boxOf
  rw [knownF_has h]
  by_cases hh : hasF l f = true
  · rw [if_pos hh, (cut_has h (cutF h)).2 hh]
  · rw [if_neg hh, ofF_none (by simpa using hh)]
theorem newBox_f (l : List Bx) (m : Msg) : (newBox l m).f = m.f := by unfold newBox; split <;> rfl
theorem recvL_put {l : List Bx} {p : Int} {m : Msg} (h : fromsOk p l = true) : recvL l m = put l (newBox l m) := by
  have hf := newBox_f l m
  have hc : CutF l (newBox l m).f (atF l m.f) := by rw [hf]; exact cutF h
  rw [← cut_put hc, hf]
  unfold recvL
  by_cases hk : knownF l m.f = true
  · have := (knownF_has (f := m.f) h) ▸ hk
    rw [if_pos hk, if_pos ((cut_has h (cutF h)).1.1 this)]
  · have : ¬ hasF l m.f = true := (knownF_has (f := m.f) h) ▸ hk
    rw [if_neg hk, if_neg (fun e => this ((cut_has h (cutF h)).1.2 e))]

/-! ### Numbers -/
def CutN (l : List Msg) (n : Int) (k : Nat) : Prop := k ≤ l.length ∧ (∀ i, i < k → (getM l i).n < n) ∧ ∀ i, k ≤ i → i < l.length → n ≤ (getM l i).n
theorem CutN.tail {x : Msg} {xs : List Msg} {f : Int} {k : Nat} (h : CutN (x :: xs) f (k + 1)) : x.n < f ∧ CutN xs f k :=
  ⟨h.2.1 0 (by omega), by have := h.1; simp at this; omega, fun i hi => h.2.1 (i + 1) (by omega), fun i hi hl => h.2.2 (i + 1) (by omega) (by simp; omega)⟩
theorem nums_pair {f : Int} : ∀ {l : List Msg} {p : Int}, waitsOk f p l = true → (nums l).Pairwise (· < ·) ∧ ∀ k ∈ nums l, p < k
  | [], _, _ => ⟨List.Pairwise.nil, fun _ h => by cases h⟩
  | x :: xs, p, h => by
    rw [waitsOk_cons] at h
    obtain ⟨h1, h2⟩ := nums_pair h.2.2.2
    refine ⟨List.pairwise_cons.2 ⟨h2, h1⟩, fun k hk => ?_⟩
    rcases List.mem_cons.1 hk with rfl | hk
    · exact h.2.2.1
    · have := h2 k hk
      have := h.2.2.1
      omega
theorem nums_getD {l : List Msg} {i : Nat} (h : i < l.length) : (nums l).getD i 0 = (getM l i).n := by simp [nums, getM, h]
theorem cutN {l : List Msg} {f p n : Int} (h : waitsOk f p l = true) : CutN l n (atN l n) := by
  have hlen : (nums l).length = l.length := by simp [nums]
  have h1 := bs_le (ks := nums l) (n := n) l.length 0 l.length (by omega) (Nat.zero_le _)
  have h2 := bs_cut (n := n) (nums_pair h).1 l.length 0 l.length (by omega) (Nat.zero_le _) (by omega) (fun i hi => by omega) (fun i hi hi2 => by omega)
  exact ⟨h1.2, fun i hi => by rw [← nums_getD (by have := h1.2; unfold atN at hi; omega)]; exact h2.1 i hi, fun i hi hl => by rw [← nums_getD hl]; exact h2.2 i hi (by omega)⟩
theorem hasN_lt {f p n : Int} : ∀ {l : List Msg}, waitsOk f p l = true → n ≤ p → hasN l n = false
  | [], _, _ => rfl
  | b :: bs, hl, hf => by
    rw [waitsOk_cons] at hl
    rw [hasN, if_neg (by omega)]
    exact hasN_lt hl.2.2.2 (by omega)
theorem cutN_has {n f : Int} : ∀ {l : List Msg} {k : Nat} {p : Int}, waitsOk f p l = true → CutN l n k → (hasN l n = true ↔ k < l.length ∧ (getM l k).n = n)
  | [], k, _, _, h => by simp [hasN]
  | x :: xs, 0, p, ho, h => by
    rw [waitsOk_cons] at ho
    have h0 := h.2.2 0 (Nat.le_refl _) (by simp)
    have e0 : getM (x :: xs) 0 = x := rfl
    rw [e0] at h0 ⊢
    rw [hasN]
    by_cases he : x.n = n
    · rw [if_pos he]
      exact ⟨fun _ => ⟨by simp, he⟩, fun _ => rfl⟩
    · rw [if_neg he, hasN_lt ho.2.2.2 h0]
      exact ⟨fun h => (by cases h), fun h => absurd h.2 he⟩
  | x :: xs, k + 1, p, ho, h => by
    rw [waitsOk_cons] at ho
    obtain ⟨h1, h2⟩ := h.tail
    have i1 := cutN_has ho.2.2.2 h2
    have e : getM (x :: xs) (k + 1) = getM xs k := rfl
    rw [e, hasN, if_neg (by omega)]
    exact i1.trans ⟨fun h => ⟨by simp; omega, h.2⟩, fun h => ⟨by have := h.1; simp at this; omega, h.2⟩⟩
theorem knownN_has {l : List Msg} {f p n : Int} (h : waitsOk f p l = true) : knownN l n = hasN l n := by
  have hc := cutN_has (n := n) h (cutN h)
  rw [Bool.eq_iff_iff, hc]
  unfold knownN
  simp only [decide_eq_true_eq]
  constructor
  · rintro ⟨h1, h2⟩
    exact ⟨h1, by rw [← nums_getD h1]; exact h2⟩
  · rintro ⟨h1, h2⟩
    exact ⟨h1, by rw [nums_getD h1]; exact h2⟩
theorem cut_ins {m : Msg} : ∀ {l : List Msg} {k : Nat}, CutN l m.n k → (hasN l m.n = false) → l.take k ++ m :: l.drop k = insM l m
  | [], k, h, _ => by
    have := h.1
    simp at this
    subst this
    rfl
  | x :: xs, 0, h, hn => by
    have h0 := h.2.2 0 (Nat.le_refl _) (by simp)
    have e0 : (getM (x :: xs) 0).n = x.n := rfl
    rw [e0] at h0
    rw [hasN] at hn
    split at hn
    · cases hn
    rw [insM, if_pos (by omega)]
    rfl
  | x :: xs, k + 1, h, hn => by
    obtain ⟨h1, h2⟩ := h.tail
    rw [hasN, if_neg (by omega)] at hn
    rw [insM, if_neg (by omega), ← cut_ins h2 hn]
    rfl
theorem hasN_iff {n : Int} : ∀ {l : List Msg}, hasN l n = true ↔ n ∈ nums l
  | [] => by simp [hasN, nums]
  | x :: xs => by
    rw [hasN]
    have ih := hasN_iff (n := n) (l := xs)
    have e : nums (x :: xs) = x.n :: nums xs := rfl
    rw [e, List.mem_cons]
    by_cases h : x.n = n
    · rw [if_pos h]
      exact ⟨fun _ => .inl h.symm, fun _ => rfl⟩
    · rw [if_neg h, ih]
      exact ⟨.inr, fun h' => h'.resolve_left (fun e => h e.symm)⟩
theorem ins_has (m : Msg) (n : Int) : ∀ l, hasN (insM l m) n = if n = m.n then true else hasN l n
  | [] => by
    simp only [insM, hasN]
    by_cases h : n = m.n
    · rw [if_pos h.symm, if_pos h]
    · rw [if_neg (fun e => h e.symm), if_neg h]
  | x :: xs => by
    have ih := ins_has m n xs
    rw [insM]
    split
    · rw [hasN]
      by_cases h : n = m.n
      · rw [if_pos h.symm, if_pos h]
      · rw [if_neg (fun e => h e.symm), if_neg h]
    · rw [hasN, hasN, ih]
      by_cases h : x.n = n
      · rw [if_pos h, if_pos h]
        split <;> rfl
      · rw [if_neg h, if_neg h]
theorem ins_length (m : Msg) : ∀ l, (insM l m).length = l.length + 1
  | [] => rfl
  | x :: xs => by
    have := ins_length m xs
    rw [insM]
    split
    · rfl
    · simp only [List.length_cons]
      omega
theorem ins_ok {f : Int} {m : Msg} (hv : validM m = true) (hf : m.f = f) : ∀ {l : List Msg} {p : Int}, waitsOk f p l = true → p < m.n → hasN l m.n = false → waitsOk f p (insM l m) = true
  | [], p, _, hp, _ => by rw [insM, waitsOk_cons]; exact ⟨hv, hf, hp, rfl⟩
  | x :: xs, p, h, hp, hn => by
    rw [waitsOk_cons] at h
    rw [hasN] at hn
    split at hn
    · cases hn
    rw [insM]
    split
    · rw [waitsOk_cons, waitsOk_cons]
      exact ⟨hv, hf, hp, h.1, h.2.1, by assumption, h.2.2.2⟩
    · rw [waitsOk_cons]
      exact ⟨h.1, h.2.1, h.2.2.1, ins_ok hv hf h.2.2.2 (by omega) hn⟩

/-! ### The run -/
theorem run_le : ∀ (n : Int) (l : List Msg), (runOf n l).length ≤ l.length
  | _, [] => Nat.le_refl _
  | n, m :: ms => by
    have := run_le (n + 1) ms
    rw [runOf]
    split
    · simp only [List.length_cons]
      omega
    · simp
theorem run_take : ∀ (n : Int) (l : List Msg), runOf n l = l.take (runOf n l).length
  | _, [] => rfl
  | n, m :: ms => by
    have := run_take (n + 1) ms
    rw [runOf]
    split
    · rw [List.length_cons, List.take_succ_cons, ← this]
    · rfl
theorem run_num : ∀ (n : Int) (l : List Msg) (i : Nat), i < (runOf n l).length → (getM (runOf n l) i).n = n + i
  | _, [], i, h => by simp [runOf] at h
  | n, m :: ms, i, h => by
    rw [runOf] at h ⊢
    by_cases he : m.n = n
    · rw [if_pos he] at h ⊢
      cases i with
      | zero => simpa [getM] using he
      | succ i =>
        have := run_num (n + 1) ms i (by simpa using h)
        have e : getM (m :: runOf (n + 1) ms) (i + 1) = getM (runOf (n + 1) ms) i := rfl
        rw [e, this]
        omega
    · rw [if_neg he] at h
      simp at h
theorem run_rest {f : Int} : ∀ (n : Int) (l : List Msg), waitsOk f n l = true → waitsOk f (n + 1 + (runOf (n + 1) l).length) (l.drop (runOf (n + 1) l).length) = true ∧ (n ≤ 1000000 → n + (runOf (n + 1) l).length ≤ 1000000)
  | n, [], _ => by simp [runOf, waitsOk]
  | n, m :: ms, h => by
    rw [waitsOk_cons] at h
    rw [runOf]
    by_cases he : m.n = n + 1
    · rw [if_pos he]
      have hw := h.2.2.2
      rw [he] at hw
      obtain ⟨i1, i2⟩ := run_rest (n + 1) ms hw
      have hv := h.1
      simp only [validM, decide_eq_true_eq] at hv
      refine ⟨?_, fun _ => ?_⟩
      · rw [List.length_cons, List.drop_succ_cons]
        refine waitsOk_mono ?_ i1
        omega
      · have := i2 (by omega)
        simp only [List.length_cons]
        omega
    · rw [if_neg he]
      refine ⟨?_, fun hn => by simpa using hn⟩
      rw [List.length_nil, List.drop_zero, waitsOk_cons]
      exact ⟨h.1, h.2.1, by simp only [Int.ofNat_zero]; omega, h.2.2.2⟩
end Go.Proofs.Ytehpdjlidmhkmaa
