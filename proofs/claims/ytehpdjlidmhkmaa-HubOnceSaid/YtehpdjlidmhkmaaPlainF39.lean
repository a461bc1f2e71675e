/- Chapter 39 in plain Lean: the missing numbers come one after the other. No statement about the program. -/
import Derived.Test.YtehpdjlidmhkmaaPlainD39
import Derived.Test.YtehpdjlidmhkmaaPlainE39
namespace Go.Proofs.Ytehpdjlidmhkmaa

theorem outL_zero {l : List Bx} {m : Msg} (h : recvE l m = 0) : outL l m = recvL l m := by unfold outL; rw [if_pos h]
theorem outM_zero {l : List Bx} {m : Msg} (h : recvE l m = 0) : outM l m = overOf l m := by unfold outM; rw [if_pos h]

theorem next_took' {l : List Bx} {f body : Int} (hl : validL l = true) (hh : hasF l f = true) (hx : (ofF l f).x ≤ 1000000) (hb : 0 ≤ body ∧ body ≤ 1000000000) (hf : 0 ≤ f ∧ f ≤ 1000000) : Took l ⟨f, (ofF l f).x, body⟩ := by
  have hv := validB_iff.1 (ofF_valid (f := f) hf (validL_iff.1 hl).2.2)
  refine ⟨hl, validM_iff.2 ⟨hf, ⟨hv.2.1.1, hx⟩, hb⟩, by simp only; omega, ?_, .inl hh, fun h => by simp only at h; omega⟩
  exact hasN_lt hv.2.2 (Int.le_refl _)

/-- How far the missing numbers have come: boxes lB, over handed over, i of them came; f the sender, G the missing numbers, n how many waited at first. -/
structure MisAt (f : Int) (G : List Int) (n : Nat) (lB : List Bx) (over i : Nat) : Prop where
  valid : validL lB = true
  has : hasF lB f = true
  sender : 0 ≤ f ∧ f ≤ 1000000
  gaps : gaps (ofF lB f).x (ofF lB f).ws = G.drop i
  sum : over + (ofF lB f).ws.length = i + n

theorem MisAt.start {l : List Bx} {T : Nat} (hl : validL l = true) (hT : T < l.length) : MisAt (getB l T).f (Go.Proofs.Ytehpdjlidmhkmaa.gaps (getB l T).x (getB l T).ws) (getB l T).ws.length l 0 0 := by
  obtain ⟨h1, h2, h3, h4⟩ := of_at (validL_iff.1 hl).2.2 hT
  exact ⟨hl, h2, (validB_iff.1 h4).1, by rw [h1]; simp, by rw [h1]⟩

theorem MisAt.waits {f : Int} {G : List Int} {n : Nat} {lB : List Bx} {over i : Nat} (h : MisAt f G n lB over i) : waitsOk f (ofF lB f).x (ofF lB f).ws = true := by
  have := (validB_iff.1 (ofF_valid h.sender (validL_iff.1 h.valid).2.2)).2.2
  rwa [ofF_f] at this

theorem first_le {f x : Int} {ws : List Msg} (h : waitsOk f x ws = true) (hne : ws ≠ []) : x + 1 ≤ 1000000 := by
  cases ws with
  | nil => exact absurd rfl hne
  | cons m ms =>
    rw [waitsOk_cons] at h
    have := (validM_iff.1 h.1).2.1
    omega

theorem MisAt.step {f : Int} {G : List Int} {n : Nat} {lB : List Bx} {over i : Nat} (h : MisAt f G n lB over i) {g : Int} (hg : G[i]? = some g) :
    recvE lB ⟨f, g, 0⟩ = 0 ∧ MisAt f G n (outL lB ⟨f, g, 0⟩) (over + (outM lB ⟨f, g, 0⟩).length) (i + 1) ∧ (outM lB ⟨f, g, 0⟩).length ≤ 65 := by
  have hd : G.drop i = g :: G.drop (i + 1) := by
    obtain ⟨hi, he⟩ := List.getElem?_eq_some_iff.1 hg
    rw [List.drop_eq_getElem_cons hi, he]
  have hw := h.waits
  have hne : (ofF lB f).ws ≠ [] := fun e => by
    have := h.gaps
    rw [e, hd, Go.Proofs.Ytehpdjlidmhkmaa.gaps] at this
    cases this
  have hs := gaps_step hw hne
  rw [h.gaps, hd] at hs
  obtain ⟨hgx, hrest⟩ := List.cons.inj hs
  have hx := first_le hw hne
  have ht : Took lB ⟨f, g, 0⟩ := by
    rw [hgx]
    exact next_took' h.valid h.has (by omega) (by omega) h.sender
  have hz := ht.zero
  have ho : overOf lB ⟨f, g, 0⟩ = ⟨f, g, 0⟩ :: runOf (g + 1) (ofF lB f).ws := by
    rw [ht.over]
    unfold ov
    rw [if_neg (by simp only; omega)]
  have hn : nb (ofF lB f) ⟨f, g, 0⟩ = ⟨f, (ofF lB f).x + 1 + (runOf (g + 1) (ofF lB f).ws).length, (ofF lB f).ws.drop (runOf (g + 1) (ofF lB f).ws).length⟩ := by
    unfold nb
    rw [if_neg (by simp only; omega)]
  have hof : ofF (recvL lB ⟨f, g, 0⟩) f = ⟨f, (ofF lB f).x + 1 + (runOf (g + 1) (ofF lB f).ws).length, (ofF lB f).ws.drop (runOf (g + 1) (ofF lB f).ws).length⟩ := by
    rw [ht.of, if_pos rfl]
    exact hn
  have hlen := run_le (g + 1) (ofF lB f).ws
  have hsum := h.sum
  refine ⟨hz, ⟨?_, ?_, h.sender, ?_, ?_⟩, ?_⟩
  · rw [outL_zero hz]
    exact ht.valid
  · rw [outL_zero hz, ht.has, if_pos rfl]
  · rw [outL_zero hz, hof, hrest, ← hgx]
  · rw [outL_zero hz, outM_zero hz, hof, ho]
    simp only [List.length_cons, List.length_drop]
    omega
  · rw [outM_zero hz]
    have h1 := ht.many
    have h2 := (validL_iff.1 h.valid).2.1
    omega

theorem MisAt.done {f : Int} {G : List Int} {n : Nat} {lB : List Bx} {over i : Nat} (h : MisAt f G n lB over i) (hi : i = G.length) : (ofF lB f).ws = [] ∧ over = G.length + n := by
  have hg := h.gaps
  subst hi
  rw [List.drop_length] at hg
  have he := gaps_nil h.waits hg
  have hs := h.sum
  rw [he] at hs
  exact ⟨he, by simpa using hs⟩

/-! ### The missing numbers themselves -/
theorem gaps_mem {f : Int} : ∀ {ws : List Msg} {p : Int} {n : Int}, waitsOk f p ws = true → p < n → (∀ m ∈ ws, n ≤ m.n) → ∀ g ∈ gaps n ws, n ≤ g ∧ g < lastN n ws ∧ hasN ws g = false := by
  intro ws p n h hp hle g hg
  rw [gaps_filter h hp hle, List.mem_filter, mem_up] at hg
  obtain ⟨⟨h1, h2⟩, h3⟩ := hg
  exact ⟨h1, by omega, by simpa using h3⟩
theorem up_pair : ∀ (a : Int) (k : Nat), (up a k).Pairwise (· < ·)
  | _, 0 => List.Pairwise.nil
  | a, k + 1 => by
    rw [up]
    exact List.pairwise_cons.2 ⟨fun b hb => by rw [mem_up] at hb; omega, up_pair (a + 1) k⟩
/-- Of a valid inbox: each missing number lies between, waits not, and they increase. -/
theorem gaps_facts {f x : Int} {ws : List Msg} (h : waitsOk f x ws = true) : (∀ g ∈ gaps x ws, x ≤ g ∧ g < lastN 0 ws ∧ hasN ws g = false) ∧ (gaps x ws).Pairwise (· < ·) := by
  have hlast : ∀ d, ws ≠ [] → lastN d ws = lastN 0 ws := fun d hne => by
    cases ws with
    | nil => exact absurd rfl hne
    | cons m ms => rfl
  have hle : ∀ m ∈ ws, x ≤ m.n := fun m hm => by have := waits_gt h m hm; omega
  have hw : waitsOk f (x - 1) ws = true := waitsOk_mono (by omega) h
  refine ⟨fun g hg => ?_, ?_⟩
  · obtain ⟨h1, h2, h3⟩ := gaps_mem hw (by omega) hle g hg
    have hne : ws ≠ [] := fun e => by rw [e] at hg; simp [gaps] at hg
    rw [hlast x hne] at h2
    exact ⟨h1, h2, h3⟩
  · rw [gaps_filter hw (by omega) hle]
    exact (up_pair _ _).filter _
theorem lastN_snoc (d : Int) : ∀ (a : List Msg) (b : Msg), lastN d (a ++ [b]) = b.n
  | [], b => rfl
  | x :: xs, b => by rw [List.cons_append, lastN, lastN_snoc]
theorem lastN_take {ws : List Msg} {k : Nat} (h : k < ws.length) : lastN 0 (ws.take (k + 1)) = (getM ws k).n := by
  rw [List.take_succ_eq_append_getElem h, lastN_snoc]
  simp [getM, h]
theorem hasN_append (n : Int) : ∀ (a b : List Msg), hasN (a ++ b) n = (hasN a n || hasN b n)
  | [], b => by simp [hasN]
  | x :: xs, b => by
    rw [List.cons_append, hasN, hasN, hasN_append n xs b]
    split <;> simp
theorem hasN_get {ws : List Msg} {n : Int} (h : hasN ws n = false) {k : Nat} (hk : k < ws.length) : (getM ws k).n ≠ n := fun e => by
  have : hasN ws n = true := hasN_iff.2 (List.mem_map.2 ⟨ws[k], List.getElem_mem hk, by rw [← e]; simp [getM, hk]⟩)
  rw [h] at this
  cases this
/-- The missing numbers by place. -/
theorem gaps_at {f x : Int} {ws : List Msg} (h : waitsOk f x ws = true) {i : Nat} {g : Int} (hg : (gaps x ws)[i]? = some g) : x ≤ g ∧ g < lastN 0 ws ∧ hasN ws g = false ∧ (∀ g', 0 < i → (gaps x ws)[i - 1]? = some g' → g' < g) := by
  obtain ⟨h1, h2⟩ := gaps_facts h
  obtain ⟨a, b, c⟩ := h1 g (List.mem_of_getElem? hg)
  refine ⟨a, b, c, fun g' hi hg' => ?_⟩
  obtain ⟨q1, r1⟩ := List.getElem?_eq_some_iff.1 hg
  obtain ⟨q2, r2⟩ := List.getElem?_eq_some_iff.1 hg'
  rw [← r1, ← r2]
  exact List.pairwise_iff_getElem.1 h2 (i - 1) i q2 q1 (by omega)
end Go.Proofs.Ytehpdjlidmhkmaa
