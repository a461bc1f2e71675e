/- Chapter 39 in plain Lean: what Receive does to valid inboxes. No statement about the program. -/
import Derived.Test.YtehpdjlidmhkmaaPlainB39
namespace Go.Proofs.Ytehpdjlidmhkmaa

def nb (b : Bx) (m : Msg) : Bx :=
  if b.x < m.n then ⟨m.f, b.x, insM b.ws m⟩ else ⟨m.f, b.x + 1 + (runOf (m.n + 1) b.ws).length, b.ws.drop (runOf (m.n + 1) b.ws).length⟩
def ov (b : Bx) (m : Msg) : List Msg := if b.x < m.n then [] else m :: runOf (m.n + 1) b.ws

theorem validL_iff {l : List Bx} : validL l = true ↔ l.length ≤ 64 ∧ many l ≤ 64 ∧ fromsOk (-1) l = true := by
  simp [validL, and_assoc]
theorem validB_iff {b : Bx} : validB b = true ↔ (0 ≤ b.f ∧ b.f ≤ 1000000) ∧ (1 ≤ b.x ∧ b.x ≤ 1000001) ∧ waitsOk b.f b.x b.ws = true := by
  simp [validB, and_assoc]
theorem validM_iff {m : Msg} : validM m = true ↔ (0 ≤ m.f ∧ m.f ≤ 1000000) ∧ (1 ≤ m.n ∧ m.n ≤ 1000000) ∧ (0 ≤ m.b ∧ m.b ≤ 1000000000) := by
  simp [validM]

theorem recvE_eq {l : List Bx} {m : Msg} (hl : validL l = true) (hm : validM m = true) :
    recvE l m = if m.n < (ofF l m.f).x ∨ hasN (ofF l m.f).ws m.n = true then 12 else if hasF l m.f = false ∧ l.length = 64 then 2 else if (ofF l m.f).x < m.n ∧ many l = 64 then 10 else 0 := by
  have ho := (validL_iff.1 hl).2.2
  have hb := validB_iff.1 (ofF_valid (f := m.f) (validM_iff.1 hm).1 ho)
  unfold recvE
  rw [hl, hm, boxOf_eq ho, knownF_has ho, knownN_has hb.2.2]
  rfl

/-- A message that is taken. -/
structure Took (l : List Bx) (m : Msg) : Prop where
  vl : validL l = true
  vm : validM m = true
  ge : (ofF l m.f).x ≤ m.n
  new : hasN (ofF l m.f).ws m.n = false
  room : hasF l m.f = true ∨ l.length < 64
  free : (ofF l m.f).x < m.n → many l < 64

theorem recvE_arg {l : List Bx} {m : Msg} (h : (validL l && validM m) = false) : recvE l m = 1 := by
  unfold recvE
  rw [if_pos h]
theorem took {l : List Bx} {m : Msg} (h : recvE l m = 0) : Took l m := by
  by_cases hv : (validL l && validM m) = true
  · rw [Bool.and_eq_true] at hv
    rw [recvE_eq hv.1 hv.2] at h
    have h64 := validL_iff.1 hv.1
    split at h
    · cases h
    rename_i h1
    split at h
    · cases h
    rename_i h2
    split at h
    · cases h
    rename_i h3
    refine ⟨hv.1, hv.2, by omega, by simpa using fun e => h1 (.inr e), ?_, fun hx => ?_⟩
    · cases hh : hasF l m.f with
      | true => exact .inl rfl
      | false => exact .inr (by have : ¬ l.length = 64 := fun e => h2 ⟨hh, e⟩; omega)
    · have : ¬ many l = 64 := fun e => h3 ⟨hx, e⟩
      omega
  · rw [recvE_arg (by simpa using hv)] at h
    cases h
theorem Took.zero {l : List Bx} {m : Msg} (h : Took l m) : recvE l m = 0 := by
  have n3 : ¬ ((ofF l m.f).x < m.n ∧ Go.Proofs.Ytehpdjlidmhkmaa.many l = 64) := fun e => by have := h.free e.1; have := e.2; omega
  have n2 : ¬ (hasF l m.f = false ∧ l.length = 64) := by
    rintro ⟨h1, h2⟩
    rcases h.room with h3 | h3
    · rw [h1] at h3; cases h3
    · omega
  rw [recvE_eq h.vl h.vm, if_neg (by rw [h.new]; simp; exact h.ge), if_neg n2, if_neg n3]

section
variable {l : List Bx} {m : Msg}
theorem Took.ok (h : Took l m) : fromsOk (-1) l = true := (validL_iff.1 h.vl).2.2
theorem Took.box (h : Took l m) : validB (ofF l m.f) = true := ofF_valid (validM_iff.1 h.vm).1 h.ok
theorem Took.waits (h : Took l m) : waitsOk m.f (ofF l m.f).x (ofF l m.f).ws = true := by
  have := (validB_iff.1 h.box).2.2
  rwa [ofF_f] at this
theorem Took.over (h : Took l m) : overOf l m = ov (ofF l m.f) m := by
  unfold overOf ov
  rw [boxOf_eq h.ok]
theorem Took.newBox (h : Took l m) : newBox l m = nb (ofF l m.f) m := by
  unfold Go.Proofs.Ytehpdjlidmhkmaa.newBox nb
  rw [h.over, boxOf_eq h.ok]
  split
  · rw [cut_ins (cutN h.waits) h.new]
  · rename_i hx
    unfold ov
    rw [if_neg hx]
    simp only [List.length_cons, Nat.add_sub_cancel]
    congr 1
    omega
theorem Took.inboxes (h : Took l m) : recvL l m = put l (nb (ofF l m.f) m) := by rw [recvL_put h.ok, h.newBox]
end
theorem nb_f (b : Bx) (m : Msg) : (nb b m).f = m.f := by unfold nb; split <;> rfl
theorem nb_valid {b : Bx} {m : Msg} (hb : validB b = true) (hm : validM m = true) (hf : b.f = m.f) (hg : b.x ≤ m.n) (hn : hasN b.ws m.n = false) : validB (nb b m) = true := by
  have h1 := validB_iff.1 hb
  have h2 := validM_iff.1 hm
  rw [hf] at h1
  unfold nb
  split
  · rename_i hx
    exact validB_iff.2 ⟨h1.1, h1.2.1, ins_ok hm rfl h1.2.2 hx hn⟩
  · rename_i hx
    have e : m.n = b.x := by omega
    have hr := run_rest (f := m.f) b.x b.ws h1.2.2
    rw [e]
    have := hr.2 (by omega)
    exact validB_iff.2 ⟨h1.1, ⟨by simp only; omega, by simp only; omega⟩, hr.1⟩
theorem nb_length (b : Bx) (m : Msg) : (nb b m).ws.length + (ov b m).length = b.ws.length + 1 := by
  unfold nb ov
  split
  · rw [ins_length]; rfl
  · have := run_le (m.n + 1) b.ws
    simp only [List.length_drop, List.length_cons]
    omega
section
variable {l : List Bx} {m : Msg}
theorem Took.many (h : Took l m) : many (recvL l m) + (overOf l m).length = many l + 1 := by
  have h1 := put_many (nb (ofF l m.f) m) h.ok
  have h2 := nb_length (ofF l m.f) m
  rw [nb_f] at h1
  rw [h.inboxes, h.over]
  omega
theorem Took.valid (h : Took l m) : validL (recvL l m) = true := by
  have hl := validL_iff.1 h.vl
  have hm := h.many
  have hlen := put_length (nb (ofF l m.f) m) h.ok
  rw [nb_f] at hlen
  refine validL_iff.2 ⟨?_, ?_, ?_⟩
  · rw [h.inboxes, hlen]
    rcases h.room with hr | hr
    · rw [hr]
      simpa using hl.1
    · split <;> omega
  · rw [h.over] at hm
    unfold ov at hm
    split at hm
    · have := h.free (by assumption)
      simp only [List.length_nil] at hm
      omega
    · simp only [List.length_cons] at hm
      omega
  · rw [h.inboxes]
    refine put_ok _ (nb_valid h.box h.vm (ofF_f _ _) h.ge h.new) h.ok ?_
    rw [nb_f]
    have := (validM_iff.1 h.vm).1.1
    omega
theorem Took.of (h : Took l m) (f : Int) : ofF (recvL l m) f = if f = m.f then nb (ofF l m.f) m else ofF l f := by
  rw [h.inboxes, put_of, nb_f]
theorem Took.has (h : Took l m) (f : Int) : hasF (recvL l m) f = if f = m.f then true else hasF l f := by
  rw [h.inboxes, put_has, nb_f]
/-- The same number comes again. -/
theorem Took.twice (h : Took l m) {m' : Msg} (hv : validM m' = true) (hf : m'.f = m.f) (hn : m'.n = m.n) : recvE (recvL l m) m' = 12 := by
  rw [recvE_eq h.valid hv, if_pos]
  rw [hf, hn, h.of, if_pos rfl]
  unfold nb
  split
  · right
    rw [ins_has, if_pos rfl]
  · left
    simp only
    omega
end
/-- Two messages of different senders. -/
theorem took_two {l : List Bx} {m n : Msg} (hne : m.f ≠ n.f) (h1 : recvE l m = 0) (h2 : recvE (recvL l m) n = 0) (h3 : recvE l n = 0) (h4 : recvE (recvL l n) m = 0) :
    recvL (recvL l m) n = recvL (recvL l n) m ∧ overOf l m = overOf (recvL l n) m ∧ overOf (recvL l m) n = overOf l n := by
  have t1 := took h1
  have t2 := took h2
  have t3 := took h3
  have t4 := took h4
  have e1 : ofF (recvL l m) n.f = ofF l n.f := by rw [t1.of, if_neg (fun e => hne e.symm)]
  have e2 : ofF (recvL l n) m.f = ofF l m.f := by rw [t3.of, if_neg hne]
  refine ⟨?_, ?_, ?_⟩
  · rw [t2.inboxes, t4.inboxes, e1, e2, t1.inboxes, t3.inboxes]
    exact put_comm (by rw [nb_f, nb_f]; exact hne) l
  · rw [t1.over, t4.over, e2]
  · rw [t2.over, t3.over, e1]

/-- The inbox at a place. -/
theorem of_at : ∀ {l : List Bx} {p : Int} {i : Nat}, fromsOk p l = true → i < l.length → ofF l (getB l i).f = getB l i ∧ hasF l (getB l i).f = true ∧ p < (getB l i).f ∧ validB (getB l i) = true
  | [], _, _, _, h => by simp at h
  | x :: xs, p, 0, h, _ => by
    rw [fromsOk_cons] at h
    have e : getB (x :: xs) 0 = x := rfl
    rw [e, ofF, hasF, if_pos rfl, if_pos rfl]
    exact ⟨rfl, rfl, h.1, h.2.1⟩
  | x :: xs, p, i + 1, h, hi => by
    rw [fromsOk_cons] at h
    have e : getB (x :: xs) (i + 1) = getB xs i := rfl
    obtain ⟨h1, h2, h3, h4⟩ := of_at h.2.2 (i := i) (by simpa using hi)
    rw [e, ofF, hasF, if_neg (by omega), if_neg (by omega)]
    exact ⟨h1, h2, by omega, h4⟩
theorem next_took {l : List Bx} {i : Nat} {body : Int} (hl : validL l = true) (hi : i < l.length) (hx : (getB l i).x ≤ 1000000) (hb : 0 ≤ body ∧ body ≤ 1000000000) : Took l ⟨(getB l i).f, (getB l i).x, body⟩ := by
  obtain ⟨h1, h2, h3, h4⟩ := of_at (validL_iff.1 hl).2.2 hi
  have hv := validB_iff.1 h4
  refine ⟨hl, validM_iff.2 ⟨hv.1, ⟨hv.2.1.1, hx⟩, hb⟩, by simp only [h1]; omega, ?_, .inl h2, fun h => by simp only [h1] at h; omega⟩
  simp only [h1]
  exact hasN_lt hv.2.2 (Int.le_refl _)

/-! ### What is missing -/
def up (a : Int) : Nat → List Int
  | 0 => []
  | k + 1 => a :: up (a + 1) k
def gaps : Int → List Msg → List Int
  | _, [] => []
  | n, m :: ms => up n (m.n - n).toNat ++ gaps (m.n + 1) ms
theorem gaps_run : ∀ (n : Int) (ws : List Msg), gaps n ws = gaps (n + (runOf n ws).length) (ws.drop (runOf n ws).length)
  | n, [] => by simp [gaps]
  | n, m :: ms => by
    rw [runOf]
    by_cases h : m.n = n
    · rw [if_pos h]
      have := gaps_run (n + 1) ms
      rw [List.length_cons, List.drop_succ_cons, gaps, h, Int.sub_self]
      simp only [Int.toNat_zero, up, List.nil_append]
      rw [this]
      congr 1
      omega
    · rw [if_neg h]
      simp
theorem gaps_step {f x : Int} {ws : List Msg} (h : waitsOk f x ws = true) (hne : ws ≠ []) : gaps x ws = x :: gaps (x + 1 + (runOf (x + 1) ws).length) (ws.drop (runOf (x + 1) ws).length) := by
  cases ws with
  | nil => exact absurd rfl hne
  | cons m ms =>
    rw [← gaps_run (x + 1) (m :: ms)]
    rw [waitsOk_cons] at h
    rw [gaps, gaps, show (m.n - x).toNat = (m.n - (x + 1)).toNat + 1 by omega, up]
    rfl
theorem gaps_nil {f x : Int} {ws : List Msg} (h : waitsOk f x ws = true) (hg : gaps x ws = []) : ws = [] := by
  cases ws with
  | nil => rfl
  | cons m ms => rw [gaps_step h (by simp)] at hg; cases hg
end Go.Proofs.Ytehpdjlidmhkmaa
