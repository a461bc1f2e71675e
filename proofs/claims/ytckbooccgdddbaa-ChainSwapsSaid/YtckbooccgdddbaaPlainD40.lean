/- Chapter 40 in plain Lean: registers of one meter that grow. No statement about the program. -/
import Derived.Test.YtckbooccgdddbaaPlainC40
namespace Go.Proofs.Ytckbooccgdddbaa

def sh (serial more : Int) (x : Rd) : Rd := if x.s = serial then { x with r := x.r + more } else x
theorem sh_s (serial more : Int) (x : Rd) : (sh serial more x).s = x.s := by unfold sh; split <;> rfl
theorem sh_n (serial more : Int) (x : Rd) : (sh serial more x).n = x.n := by unfold sh; split <;> rfl
theorem sh_m (serial more : Int) (x : Rd) : (sh serial more x).m = x.m := by unfold sh; split <;> rfl
theorem sh_r (serial more : Int) (x : Rd) : (sh serial more x).r = if x.s = serial then x.r + more else x.r := by unfold sh; split <;> rfl

theorem gain_sh (serial more : Int) (b x : Rd) : gain (sh serial more b) (sh serial more x) = gain b x := by
  unfold gain
  rw [sh_s, sh_s, sh_r, sh_r]
  by_cases h : x.s = b.s
  · rw [if_pos h, if_pos h, h]
    split <;> omega
  · rw [if_neg h, if_neg h]
theorem old_sh (serial more : Int) (b x : Rd) : oldR (sh serial more b) (sh serial more x) = oldR b x := by
  unfold oldR
  rw [sh_s, sh_s, sh_r, sh_r, sh_m, sh_m]
  by_cases h : x.s = b.s
  · rw [h]
    split
    · apply decide_eq_decide.2
      omega
    · rfl
  · simp [h]
theorem later_sh (serial more : Int) (b x : Rd) : laterR (sh serial more b) (sh serial more x) = laterR b x := by
  unfold laterR
  rw [sh_s, sh_s, sh_m, sh_m]

theorem getR_sh {serial more : Int} {l : List Rd} {i : Nat} (hi : i < l.length) : getR (l.map (sh serial more)) i = sh serial more (getR l i) := by
  rw [getR_eq (by simpa using hi), getR_eq hi, List.getElem_map]

theorem energy_sh {serial more : Int} {l : List Rd} {a : Nat} : ∀ {d : Nat}, 1 ≤ a → a + d ≤ l.length → energy (l.map (sh serial more)) a d = energy l a d
  | 0, _, _ => rfl
  | d + 1, ha, hd => by
    unfold energy
    rw [energy_sh ha (by omega), getR_sh (by omega), getR_sh (by omega), gain_sh]

theorem ordered_sh {serial more : Int} {l : List Rd} (h0 : 0 ≤ more) (hle : ∀ x ∈ l, x.s = serial → x.r ≤ 1000000000 - more) (h : ordered l = true) : ordered (l.map (sh serial more)) = true := by
  rw [ordered_iff] at h ⊢
  intro i hi
  have hi' : i < l.length := by simpa using hi
  have hok := h i hi'
  obtain ⟨x, hx, hok⟩ := okAt_parts hok
  have hm : (l.map (sh serial more))[i]? = some (sh serial more x) := by rw [List.getElem?_map, hx]; rfl
  have hp : prevAt (l.map (sh serial more)) i = (prevAt l i).map (sh serial more) := by
    unfold prevAt
    split
    · rfl
    · rw [List.getElem?_map]
  unfold okAt
  rw [hm, hp]
  have hxm : x ∈ l := List.mem_of_getElem? hx
  have hv : validR (sh serial more x) = true := by
    have := validR_iff.1 (okN_valid hok).1
    rw [validR_iff, sh_s, sh_n, sh_m, sh_r]
    refine ⟨this.1, this.2.1, this.2.2.1, ?_⟩
    have hx2 := hle x hxm
    split
    · rename_i e
      have := hx2 e
      omega
    · exact this.2.2.2
  have hn := (okN_valid hok).2
  simp only [okN, hv, Bool.true_and, sh_n, hn, decide_true]
  simp only [okN, Bool.and_eq_true] at hok
  have h2 := hok.2
  cases hpv : prevAt l i with
  | none => rfl
  | some b =>
    rw [hpv] at h2
    simp only [Option.map_some, old_sh, later_sh]
    exact h2

/-- The first k readings have been changed by f. -/
def curF (f : Rd → Rd) (l : List Rd) (k : Nat) : List Rd := (l.take k).map f ++ l.drop k
theorem curF_zero (f : Rd → Rd) (l : List Rd) : curF f l 0 = l := rfl
theorem curF_all (f : Rd → Rd) (l : List Rd) : curF f l l.length = l.map f := by simp [curF]
theorem curF_length {f : Rd → Rd} {l : List Rd} {k : Nat} (hk : k ≤ l.length) : (curF f l k).length = l.length := by simp [curF]; omega
theorem curF_get {f : Rd → Rd} {l : List Rd} {k : Nat} (hk : k < l.length) : getR (curF f l k) k = getR l k := by
  have h : (curF f l k)[k]? = l[k]? := by
    unfold curF
    rw [List.getElem?_append_right (by simp; omega)]
    simp [Nat.min_eq_left (Nat.le_of_lt hk)]
  simp only [getR, List.getD_eq_getElem?_getD, h]
theorem curF_succ {f : Rd → Rd} {l : List Rd} {k : Nat} (hk : k < l.length) : curF f l (k + 1) = (curF f l k).set k (f (getR l k)) := by
  unfold curF
  rw [List.set_append_right _ _ (by simp; omega), List.take_succ_eq_append_getElem hk, List.map_append, List.append_assoc]
  have e : k - ((l.take k).map f).length = 0 := by simp; omega
  rw [e, getR_eq hk, List.drop_eq_getElem_cons hk]
  rfl
end Go.Proofs.Ytckbooccgdddbaa
