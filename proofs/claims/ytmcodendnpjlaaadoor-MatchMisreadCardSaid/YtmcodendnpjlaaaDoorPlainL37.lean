/- Chapter 37, plain: each entry with its own exit. No program here. -/
import Derived.Test.YtmcodendnpjlaaaDoorEx37
import Derived.Test.YtmcodendnpjlaaaDoorPlainE37
import Derived.Test.YtmcodendnpjlaaaDoorPlainF37
import Derived.Test.YtmcodendnpjlaaaDoorWp37
namespace Go.Proofs.YtmcodendnpjlaaaDoor

theorem bs_inj {a b : ByteArray} (h : bs a = bs b) : a = b := by
  unfold bs at h
  have h2 : a.data.toList = b.data.toList := List.map_inj_right (fun x y hxy => UInt8.toNat_inj.1 hxy) |>.1 h
  have h3 : a.data = b.data := Array.toList_inj.1 h2
  cases a; cases b; simp_all
theorem dP_self (s : ByteArray) (a b : Int) : dP ⟨s, a⟩ ⟨s, b⟩ = 0 := by
  unfold dP
  split
  · simp [E_self]
  · rfl
theorem dP_zero {p q : Ps} (hp : validS p.s = true) (hq : validS q.s = true) (h : dP p q = 0) : p.s = q.s := by
  unfold dP at h
  rw [if_pos (by rw [hp, hq]; rfl)] at h
  exact bs_inj (E_zero _ _ (by omega))
theorem outL_get {E : List Ps} {M : Int} {of : List Nat} {j : Nat} (h : j < of.length) : (outL E M of).getD j Ps.zero = ⟨(E.getD (of.getD j 0) Ps.zero).s, M + 1 + (j : Int)⟩ := by
  simp [outL, List.getD_eq_getElem?_getD, h]
/-- Each entry with the exit that belongs to it. -/
def rightL (of : List Nat) (n : Nat) : List Pr := (List.range n).map (fun i => (i, of.idxOf i))
theorem rightL_mem {of : List Nat} {n : Nat} {p : Pr} (h : p ∈ rightL of n) : p.1 < n ∧ p.2 = of.idxOf p.1 := by
  obtain ⟨i, hi, rfl⟩ := List.mem_map.1 h
  exact ⟨List.mem_range.1 hi, rfl⟩
theorem idx_of {of : List Nat} {n i : Nat} (hp : of.Perm (List.range n)) (hi : i < n) : of.idxOf i < n ∧ of.getD (of.idxOf i) 0 = i := by
  have hm : i ∈ of := hp.mem_iff.2 (List.mem_range.2 hi)
  have hl := List.idxOf_lt_length_iff.2 hm
  have hn : of.length = n := by have := hp.length_eq; rwa [List.length_range] at this
  exact ⟨by omega, by rw [List.getD_eq_getElem?_getD, List.getElem?_eq_getElem hl]; simp⟩
theorem right_VP {ok : Nat → Nat → Bool} {of : List Nat} {n : Nat} (hp : of.Perm (List.range n)) (hok : ∀ i j, i < n → j < n → ok i j = true) : VP ok n n 0 0 (rightL of n) := by
  refine VP.of_sorted (fun p hm => ?_) ?_
  · obtain ⟨h1, h2⟩ := rightL_mem hm
    have h3 := idx_of hp h1
    rw [h2]
    exact ⟨Nat.zero_le _, h1, h3.1, by simp, hok _ _ h1 h3.1⟩
  · unfold rightL
    rw [List.pairwise_map]
    have hr := List.pairwise_lt_range (n := n)
    refine hr.imp_of_mem (fun {a b} ha hb hab => ⟨hab, fun e => ?_⟩)
    have h1 := (idx_of hp (List.mem_range.1 ha)).2
    have h2 := (idx_of hp (List.mem_range.1 hb)).2
    simp only at e
    rw [e, h2] at h1
    omega
theorem sumD_none {d : Nat → Nat → Int} : ∀ {l : List Pr}, (∀ p ∈ l, d p.1 p.2 = 0) → sumD d l = 0
  | [], _ => rfl
  | p :: l, h => by rw [sumD_cons, h p (by simp), sumD_none (fun q hq => h q (by simp [hq]))]; rfl
/-- Each pair is that of its entry. -/
def RightP (f : Fd) (of : List Nat) (n : Nat) : Prop := f.pairs.length = n ∧ ∀ k, k < n → ∃ j, PairI (toI f.pairs) of k j
theorem toI_getD {l : List Pr} {k : Nat} (h : k < l.length) : (toI l).getD k (0, 0) = (((l.getD k (0, 0)).1 : Int), ((l.getD k (0, 0)).2 : Int)) := by simp [toI, List.getD_eq_getElem?_getD, h]
structure ExF (EE : List Ps) (of : List Nat) (M : Int) : Prop where
  perm : of.Perm (List.range EE.length)
  le : ∀ i, i < EE.length → (EE.getD i Ps.zero).mn ≤ M
theorem right_best {EE : List Ps} {of : List Nat} {M : Int} (hx : ExF EE of M) (hv : validP EE = true) (hw : validP (outL EE M of) = true) (hne : ∀ i k, i < EE.length → k < EE.length → (EE.getD i Ps.zero).s = (EE.getD k Ps.zero).s → i = k) : (best EE (outL EE M of)).cost = 0 ∧ RightP (best EE (outL EE M of)) of EE.length := by
  have hn : of.length = EE.length := by have := hx.perm.length_eq; rwa [List.length_range] at this
  have hB := best_is EE (outL EE M of)
  rw [outL_len, hn] at hB
  have hok : ∀ i j, i < EE.length → j < EE.length → okE EE (outL EE M of) i j = true := fun i j hi hj => by
    unfold okE
    rw [outL_get (by omega), decide_eq_true_eq]
    have := hx.le i hi
    simp only
    omega
  have hR := right_VP hx.perm hok
  have hc : costP (dE EE (outL EE M of)) EE.length EE.length 0 0 (rightL of EE.length) = 0 := by
    unfold costP
    rw [leftE_zero, sumD_none (fun p hm => ?_)]
    · simp [rightL]; omega
    · obtain ⟨h1, h2⟩ := rightL_mem hm
      have h3 := idx_of hx.perm h1
      unfold dE
      rw [h2, outL_get (by omega), h3.2]
      exact dP_self _ _ _
  obtain ⟨r1, r2, r3⟩ := best_zero (dE_pos EE (outL EE M of)) hB hR hc
  refine ⟨r1, r2, fun k hk => ?_⟩
  obtain ⟨s1, s2, s3⟩ := r3 k hk
  refine ⟨_, by rw [toI_getD (by omega), s1], by rw [toI_getD (by omega)], by omega, ?_⟩
  unfold dE at s3
  have hvx := validP_mem (i := ((best EE (outL EE M of)).pairs.getD k (0, 0)).2) hw (by rw [outL_len]; omega)
  have hs := dP_zero (validP_mem hv hk) hvx s3
  rw [outL_get (by omega)] at hs
  have hofl : of.getD ((best EE (outL EE M of)).pairs.getD k (0, 0)).2 0 < EE.length := by
    have : of.getD ((best EE (outL EE M of)).pairs.getD k (0, 0)).2 0 ∈ of := by
      rw [List.getD_eq_getElem?_getD, List.getElem?_eq_getElem (by omega)]
      exact List.getElem_mem _
    exact List.mem_range.1 (hx.perm.mem_iff.1 this)
  exact (hne k _ hk hofl hs).symm
end Go.Proofs.YtmcodendnpjlaaaDoor
