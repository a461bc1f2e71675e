/- Chapter 39 in plain Lean: the missing numbers. No statement about the program. -/
import Derived.Test.YtehpdjlidmhkmaaPlainC39
namespace Go.Proofs.Ytehpdjlidmhkmaa

theorem up_length : ∀ (a : Int) (k : Nat), (up a k).length = k
  | _, 0 => rfl
  | a, k + 1 => by rw [up, List.length_cons, up_length]
theorem up_add : ∀ (a : Int) (j k : Nat), up a (j + k) = up a j ++ up (a + j) k
  | a, 0, k => by simp [up]
  | a, j + 1, k => by
    rw [show j + 1 + k = (j + k) + 1 by omega, up, up, up_add (a + 1) j k, show a + 1 + (j : Int) = a + ((j + 1 : Nat) : Int) by omega]
    rfl
theorem mem_up : ∀ {a : Int} {k : Nat} {n : Int}, n ∈ up a k ↔ a ≤ n ∧ n < a + k
  | a, 0, n => by simp [up]
  | a, k + 1, n => by
    rw [up, List.mem_cons, mem_up]
    omega
def lastN (d : Int) : List Msg → Int
  | [] => d
  | m :: ms => lastN m.n ms
theorem lastN_get {d : Int} : ∀ {ws : List Msg}, ws ≠ [] → lastN d ws = (getM ws (ws.length - 1)).n
  | [], h => absurd rfl h
  | [m], _ => rfl
  | m :: m' :: ms, _ => by
    rw [lastN, lastN_get (by simp)]
    rfl
theorem lastN_ge {f : Int} : ∀ {ws : List Msg} {p : Int}, waitsOk f p ws = true → p ≤ lastN p ws
  | [], _, _ => Int.le_refl _
  | m :: ms, p, h => by
    rw [waitsOk_cons] at h
    have := lastN_ge h.2.2.2
    rw [lastN]
    omega
theorem filter_all {p : Int → Bool} {l : List Int} (h : ∀ a ∈ l, p a = true) : l.filter p = l := List.filter_eq_self.2 h
theorem gaps_filter {f : Int} : ∀ {ws : List Msg} {p n : Int}, waitsOk f p ws = true → p < n → (∀ m ∈ ws, n ≤ m.n) → gaps n ws = (up n (lastN n ws - n).toNat).filter (fun k => !hasN ws k)
  | [], p, n, _, _, _ => by simp [gaps, lastN, up]
  | m :: ms, p, n, h, hp, hle => by
    rw [waitsOk_cons] at h
    have hmn := hle m (List.mem_cons_self ..)
    have h1 : ∀ k ∈ up n (m.n - n).toNat, (!hasN (m :: ms) k) = true := fun k hk => by
      rw [mem_up] at hk
      rw [hasN_lt (p := k) (f := f) (by rw [waitsOk_cons]; exact ⟨h.1, h.2.1, by omega, h.2.2.2⟩) (Int.le_refl _)]
      rfl
    cases ms with
    | nil =>
      rw [gaps, gaps, lastN, lastN, List.append_nil, filter_all h1]
    | cons m' ms' =>
      have hw := h.2.2.2
      rw [waitsOk_cons] at hw
      have hge : m'.n ≤ lastN m'.n ms' := lastN_ge hw.2.2.2
      have hle' : ∀ x ∈ m' :: ms', m.n + 1 ≤ x.n := fun x hx => by
        have := (nums_pair h.2.2.2).2 x.n (List.mem_map.2 ⟨x, hx, rfl⟩)
        omega
      have ih := gaps_filter (n := m.n + 1) h.2.2.2 (by omega) hle'
      have el : lastN n (m :: m' :: ms') = lastN m'.n ms' := rfl
      have el2 : lastN (m.n + 1) (m' :: ms') = lastN m'.n ms' := rfl
      rw [el2] at ih
      rw [gaps, ih, el, show (lastN m'.n ms' - n).toNat = (m.n - n).toNat + (1 + (lastN m'.n ms' - (m.n + 1)).toNat) by omega, up_add, up_add, List.filter_append, filter_all h1,
        show n + ((m.n - n).toNat : Int) = m.n by omega]
      congr 1
      have e1 : up m.n 1 = [m.n] := rfl
      rw [e1, List.filter_append]
      have e2 : [m.n].filter (fun k => !hasN (m :: m' :: ms') k) = [] := by simp [hasN]
      rw [e2, List.nil_append, show m.n + ((1 : Nat) : Int) = m.n + 1 by omega]
      apply List.filter_congr
      intro k hk
      rw [mem_up] at hk
      have e3 : hasN (m :: m' :: ms') k = hasN (m' :: ms') k := by rw [hasN, if_neg (by omega)]
      rw [e3]
/-- What Missing returns. -/
def missL (l : List Bx) (f : Int) : List Int := if validL l = true ∧ hasF l f = true then (gaps (ofF l f).x (ofF l f).ws).take 64 else []
theorem missL_no {l : List Bx} {f : Int} (h : validL l = false ∨ hasF l f = false ∨ (ofF l f).ws = []) : missL l f = [] := by
  unfold missL
  split
  · rename_i hv
    rcases h with h | h | h
    · rw [h] at hv; cases hv.1
    · rw [h] at hv; cases hv.2
    · rw [h]; simp [gaps]
  · rfl
theorem missL_yes {l : List Bx} {f : Int} (h1 : validL l = true) (h2 : hasF l f = true) : missL l f = (gaps (ofF l f).x (ofF l f).ws).take 64 := by
  unfold missL
  rw [if_pos ⟨h1, h2⟩]
theorem take_full {α : Type} {a b : List α} {k : Nat} (h : a.length = k) : (a ++ b).take k = a := by
  rw [List.take_append_of_le_length (by omega), List.take_of_length_le (by omega)]
theorem waits_valid {f : Int} : ∀ {ws : List Msg} {p : Int} {i : Nat}, waitsOk f p ws = true → i < ws.length → validM (getM ws i) = true
  | [], _, _, _, h => by simp at h
  | m :: ms, p, 0, h, _ => by rw [waitsOk_cons] at h; exact h.1
  | m :: ms, p, i + 1, h, hi => by
    rw [waitsOk_cons] at h
    show validM (getM ms i) = true
    exact waits_valid h.2.2.2 (by simpa using hi)
end Go.Proofs.Ytehpdjlidmhkmaa
