/- A rule of my own for a region that draws its order and in which one operation (a call) or a few stand between all that comes before and all that comes behind. No statement about the program. -/
import Derived.Test.YtmcodendnpjlaaaDoorMix
namespace Go.Proofs.YtmcodendnpjlaaaDoor
open Go.RowKit

section
variable {P : Program} {ops : Array Oper} {Inv : World → Prop} {Q : Exit → Act → World → Prop}

/-- Pairs of one stretch: different slots; what one reads of another, it waits for. -/
def segOk (ops : Array Oper) (lo hi : Nat) : Bool :=
  (List.range hi).all fun i => decide (i < lo) || match ops[i]? with
    | none => true
    | some oi => (List.range hi).all fun j => decide (j < lo) || match ops[j]? with
        | none => true
        | some oj => match oj.dst with
          | none => true
          | some d => (decide (i = j) || oi.dst != some d) && (!(oi.looksAt ops).contains d || (decide (j < i) && Region.waitsFor .any ops i j))
theorem segOk_spec {lo hi : Nat} (h : segOk ops lo hi = true) (i : Nat) (oi : Oper) (j : Nat) (oj : Oper) (d : Tmp) (hi' : ops[i]? = some oi) (hj : ops[j]? = some oj) (h1 : lo ≤ i) (h2 : i < hi) (h3 : lo ≤ j) (h4 : j < hi) (hd : oj.dst = some d) :
    (i ≠ j → oi.dst ≠ some d) ∧ (d ∈ oi.looksAt ops → j < i ∧ Region.waitsFor .any ops i j = true) := by
  unfold segOk at h
  rw [List.all_eq_true] at h
  have h5 := h i (List.mem_range.2 h2)
  simp only [hi', Bool.or_eq_true, decide_eq_true_eq] at h5
  have h6 := h5.resolve_left (by omega)
  rw [List.all_eq_true] at h6
  have h7 := h6 j (List.mem_range.2 h4)
  simp only [hj, hd, Bool.or_eq_true, decide_eq_true_eq] at h7
  have h8 := h7.resolve_left (by omega)
  simp only [Bool.and_eq_true, Bool.or_eq_true, decide_eq_true_eq, bne_iff_ne, Bool.not_eq_true', List.contains_eq_mem, decide_eq_false_iff_not] at h8
  exact ⟨fun hne => h8.1.resolve_left hne, fun hl => h8.2.resolve_left (fun hc => hc hl)⟩

/-- Operation c waits for all before it, and all behind it wait for it. -/
def cutOk (ops : Array Oper) (c : Nat) : Bool :=
  ((List.range c).all fun j => (List.range (c + 1)).any fun k => decide (j < k) && Region.waitsFor .any ops k j) &&
  ((List.range ops.size).all fun i => decide (i ≤ c) || (List.range i).any fun k => decide (c ≤ k) && Region.waitsFor .any ops i k)

structure Closed (ops : Array Oper) (listed : Array Bool) : Prop where
  size : listed.size = ops.size
  closed : ∀ j oj, ops[j]? = some oj → listed.getD j false = true → ∀ e ∈ oj.after, Region.binds .any e = true → listed.getD e.on false = true

theorem Closed.waits {listed : Array Bool} (h : Closed ops listed) {k j : Nat} (hk : listed.getD k false = true) (hw : Region.waitsFor .any ops k j = true) : listed.getD j false = true := by
  obtain ⟨o', ho', e, he, hb, hon⟩ := Region.waitsFor_spec hw
  have := h.closed k o' ho' hk e he hb
  rwa [hon] at this

theorem cut_below {c : Nat} (hc : cutOk ops c = true) {listed : Array Bool} (h : Closed ops listed) (hcl : listed.getD c false = true) : ∀ d j, c - j ≤ d → j < c → listed.getD j false = true := by
  simp only [cutOk, Bool.and_eq_true, List.all_eq_true, List.mem_range, List.any_eq_true, decide_eq_true_eq] at hc
  intro d
  induction d with
  | zero => intro j hd hj; omega
  | succ d ih =>
    intro j hd hj
    obtain ⟨k, hk, hjk, hw⟩ := hc.1 j hj
    rcases Nat.lt_or_ge k c with hlt | hge
    · exact h.waits (ih k (by omega) hlt) hw
    · have : k = c := by omega
      subst this
      exact h.waits hcl hw
theorem cut_ready {c : Nat} (hc : cutOk ops c = true) {listed : Array Bool} (h : Closed ops listed) {i : Nat} (hi : i ∈ Region.ready .any ops listed) (hic : c ≤ i) : (∀ j, j < c → listed.getD j false = true) ∧ (c < i → listed.getD c false = true) := by
  obtain ⟨hun, oi, hoi, hall⟩ := mem_ready.1 hi
  have hlt := (Array.getElem?_eq_some_iff.1 hoi).1
  have hc' := hc
  simp only [cutOk, Bool.and_eq_true, List.all_eq_true, List.mem_range, List.any_eq_true, decide_eq_true_eq, Bool.or_eq_true] at hc'
  have up : ∀ d k, k ≤ d → c ≤ k → k < ops.size → listed.getD k false = true → listed.getD c false = true := by
    intro d
    induction d with
    | zero =>
      intro k hk hck _ hl
      have : k = c := by omega
      subst this
      exact hl
    | succ d ih =>
      intro k hk hck hks hl
      by_cases he : k = c
      · subst he
        exact hl
      · obtain ⟨k', hk', hck', hw⟩ := (hc'.2 k hks).resolve_left (by omega)
        exact ih k' (by omega) hck' (by omega) (h.waits hl hw)
  have hcl : c < i → listed.getD c false = true := fun hci => by
    obtain ⟨k, hk, hck, hw⟩ := (hc'.2 i hlt).resolve_left (by omega)
    obtain ⟨o', ho', e, he, hb, hon⟩ := Region.waitsFor_spec hw
    have : o' = oi := Option.some.inj (ho'.symm.trans hoi)
    subst this
    have h2 := hall e he hb
    rw [hon] at h2
    exact up k k (Nat.le_refl _) hck (by omega) h2
  refine ⟨fun j hj => ?_, hcl⟩
  rcases Nat.lt_or_ge c i with hci | hci
  · exact cut_below hc h (hcl hci) _ j (Nat.le_refl _) hj
  · have : i = c := by omega
    subst this
    have dn : ∀ d j, i - j ≤ d → j < i → listed.getD j false = true := by
      intro d
      induction d with
      | zero => intro j hd hj; omega
      | succ d ih =>
        intro j hd hj
        obtain ⟨k, hk, hjk, hw⟩ := hc'.1 j hj
        rcases Nat.lt_or_ge k i with hlt' | hge
        · exact h.waits (ih k (by omega) hlt') hw
        · have : k = i := by omega
          subst this
          obtain ⟨o', ho', e, he, hb, hon⟩ := Region.waitsFor_spec hw
          have : o' = oi := Option.some.inj (ho'.symm.trans hoi)
          subst this
          have h2 := hall e he hb
          rwa [hon] at h2
    exact dn _ j (Nat.le_refl _) hj

/-- How far a stretch has come. -/
structure UptoS (ops : Array Oper) (lo hi : Nat) (A : Act) (listed : Array Bool) (a : Act) : Prop where
  cl : Closed ops listed
  low : ∀ i, i < lo → listed.getD i true = true
  tail : ∀ t, hi ≤ t → t < ops.size → listed.getD t true = false
  dfs : a.defers = A.defers
  sz : a.tmps.size = A.tmps.size
  agree : ∀ t, (∀ j oj, lo ≤ j → j < hi → ops[j]? = some oj → listed.getD j true = false → oj.dst ≠ some t) → a.tmps[t]? = A.tmps[t]?

def backOk (ops : Array Oper) : Bool :=
  Region.noSelect ops && (List.range ops.size).all fun i => match ops[i]? with
    | none => true
    | some oi => oi.after.all fun e => !Region.binds .any e || decide (e.on < i)
theorem backOk_spec (h : backOk ops = true) : (∀ o ∈ ops.toList, ∀ cs b, o.op ≠ .select cs b) ∧ (∀ (i : Nat) (oi : Oper), ops[i]? = some oi → ∀ e ∈ oi.after, Region.binds .any e = true → e.on < i) := by
  unfold backOk at h
  simp only [Bool.and_eq_true] at h
  obtain ⟨h1, h3⟩ := h
  rw [List.all_eq_true] at h3
  refine ⟨fun o ho cs b => ?_, fun i oi hi e he hbd => ?_⟩
  · obtain ⟨k, hk⟩ := List.getElem?_of_mem ho
    exact Region.noSelect_spec h1 k o cs b (by simpa using hk)
  · have := h3 i (List.mem_range.2 (Array.getElem?_eq_some_iff.1 hi).1)
    simp only [hi] at this
    have := (Array.all_eq_true_iff_forall_mem.1 this) e he
    simpa [hbd] using this

theorem Closed.set {listed : Array Bool} (h : Closed ops listed) {i : Nat} (hi : i ∈ Region.ready .any ops listed) : Closed ops (listed.setIfInBounds i true) := by
  obtain ⟨hun, oi, hoi, hall⟩ := mem_ready.1 hi
  have hmono : ∀ k, listed.getD k false = true → (listed.setIfInBounds i true).getD k false = true := fun k hk => by
    by_cases he : i = k
    · subst he
      rw [getD_both hun] at hk
      cases hk
    · rw [getD_set_ne false he]
      exact hk
  refine ⟨by rw [Array.size_setIfInBounds, h.size], fun j oj hj hl e he hbd => hmono _ ?_⟩
  by_cases hji : i = j
  · subst hji
    have : oj = oi := Option.some.inj (hj.symm.trans hoi)
    subst this
    exact hall e he hbd
  · rw [getD_set_ne false hji] at hl
    exact h.closed j oj hj hl e he hbd

theorem finL_of {listed : Array Bool} {hi : Nat} (hs : listed.size = ops.size) (h1 : ∀ i, i < hi → listed.getD i true = true) (h2 : ∀ t, hi ≤ t → t < ops.size → listed.getD t true = false) : listed = finL ops.size hi := by
  apply Array.ext_getElem?
  intro i
  rcases Nat.lt_or_ge i ops.size with hi' | hi'
  · have hl : i < listed.size := by rw [hs]; exact hi'
    by_cases hin : i < hi
    · have := h1 i hin
      simp [hl] at this
      simp [finL, hi', hl, hin, this]
    · have := h2 i (by omega) hi'
      simp [hl] at this
      simp [finL, hi', hl, hin, this]
  · have hl : listed.size ≤ i := by rw [hs]; exact hi'
    simp [finL, hi', hl]

/-- One stretch, in whatever order. -/
theorem wpAny_phase {lo hi : Nat} {A : Act} (hB : backOk ops = true) (hS : segOk ops lo hi = true) (hhi : hi ≤ ops.size) (hc : hi = ops.size ∨ cutOk ops hi = true) (hset : ∀ i o, lo ≤ i → i < hi → ops[i]? = some o → Settled P ops Inv o A)
    (hK : ∀ w, Inv w → wpAny P .any ops Q (ops.size - hi) (finL ops.size hi) A w) :
    ∀ (m : Nat) (listed : Array Bool) (a : Act) (w : World), unl hi listed = m → UptoS ops lo hi A listed a → Inv w → wpAny P .any ops Q (m + (ops.size - hi)) listed a w := by
  obtain ⟨hsel, hback⟩ := backOk_spec hB
  intro m
  induction m with
  | zero =>
    intro listed a w hm hU hInv
    have hall : ∀ i, i < hi → listed.getD i true = true := by
      intro i hi'
      unfold unl at hm
      rw [List.countP_eq_zero] at hm
      have := hm i (List.mem_range.2 hi')
      simpa using this
    have ha : a = A := by
      have h1 : a.tmps = A.tmps := by
        apply Array.ext_getElem?
        intro t
        refine hU.agree t (fun j oj _ hj _ hun => ?_)
        rw [hall j hj] at hun; cases hun
      have h2 := hU.dfs
      cases a; cases A; simp_all
    have hl := finL_of (hi := hi) hU.cl.size hall hU.tail
    subst ha
    subst hl
    rw [Nat.zero_add]
    exact hK w hInv
  | succ m ih =>
    intro listed a w hm hU hInv
    have hex : ∃ i, i < hi ∧ listed.getD i true = false := by
      have : 0 < unl hi listed := by omega
      unfold unl at this
      rw [List.countP_pos_iff] at this
      obtain ⟨i, hi', h⟩ := this
      exact ⟨i, List.mem_range.1 hi', by simpa using h⟩
    have hsmall : ∀ k i, i ≤ k → i < hi → listed.getD i true = false → ∃ j, j ∈ Region.ready .any ops listed := by
      intro k
      induction k with
      | zero =>
        intro i hi' hin hun
        have hlt : i < ops.size := by omega
        refine ⟨i, mem_ready.2 ⟨hun, ops[i], by simp [hlt], fun e he hbd => ?_⟩⟩
        have := hback i ops[i] (by simp [hlt]) e he hbd
        omega
      | succ k ihk =>
        intro i hi' hin hun
        have hlt : i < ops.size := by omega
        by_cases hex2 : ∃ e ∈ (ops[i]).after, Region.binds .any e = true ∧ listed.getD e.on false = false
        · obtain ⟨e, he, hbd, hf⟩ := hex2
          have hlt2 := hback i ops[i] (by simp [hlt]) e he hbd
          exact ihk e.on (by omega) (by omega) (getD_in (by rw [hU.cl.size]; omega) hf)
        · refine ⟨i, mem_ready.2 ⟨hun, ops[i], by simp [hlt], fun e he hbd => ?_⟩⟩
          cases hf : listed.getD e.on false with
          | true => rfl
          | false => exact absurd ⟨e, he, hbd, hf⟩ hex2
    obtain ⟨i0, hi0, hun0⟩ := hex
    obtain ⟨j0, hj0⟩ := hsmall i0 i0 (Nat.le_refl _) hi0 hun0
    rw [show m + 1 + (ops.size - hi) = (m + (ops.size - hi)) + 1 by omega]
    refine ⟨fun h => (by rw [h] at hj0; cases hj0), fun i hir => ?_⟩
    obtain ⟨hiun, oi, hoi, hall⟩ := mem_ready.1 hir
    have hin : i < hi := by
      rcases Nat.lt_or_ge i hi with h | h
      · exact h
      · have hilt := (Array.getElem?_eq_some_iff.1 hoi).1
        rcases hc with hc | hc
        · omega
        · have := (cut_ready hc hU.cl hir h).1 i0 hi0
          rw [getD_both hun0] at this
          cases this
    have hilo : lo ≤ i := by
      rcases Nat.lt_or_ge i lo with h | h
      · rw [hU.low i h] at hiun; cases hiun
      · exact h
    have hag : ∀ t ∈ oi.looksAt ops, a.tmps[t]? = A.tmps[t]? := by
      intro t ht
      refine hU.agree t (fun j oj hj1 hj hoj hun hd => ?_)
      obtain ⟨_, h2⟩ := segOk_spec hS i oi j oj t hoi hoj hilo hin hj1 hj hd
      obtain ⟨hji, hwf⟩ := h2 ht
      obtain ⟨o', ho', e, he, hb, hon⟩ := Region.waitsFor_spec hwf
      have : o' = oi := Option.some.inj (ho'.symm.trans hoi)
      subst this
      have h3 := hall e he hb
      rw [hon, getD_both hun] at h3
      cases h3
    have he := exec_of_agree (ops := ops) (hsel oi (by
      have := Array.mem_of_getElem? hoi
      simpa using this)) hag
    have hwn := wanted_of_agree (ops := ops) hag
    have hU' : ∀ v, A.put oi.dst v = A → UptoS ops lo hi A (listed.setIfInBounds i true) (a.put oi.dst v) := by
      intro v hv
      refine ⟨hU.cl.set hir, fun k hk => ?_, fun t ht1 ht2 => ?_, by rw [put_defers']; exact hU.dfs, by rw [put_size]; exact hU.sz, fun t ht => ?_⟩
      · rw [getD_set_ne true (by omega)]
        exact hU.low k hk
      · rw [getD_set_ne true (by omega)]
        exact hU.tail t ht1 ht2
      by_cases hd : oi.dst = some t
      · rw [← hv, hd]
        by_cases hlt : t < a.tmps.size
        · have hlt' : t < A.tmps.size := by rw [← hU.sz]; exact hlt
          simp [Act.put, hlt, hlt']
        · have hlt' : ¬ t < A.tmps.size := by rw [← hU.sz]; exact hlt
          simp [Act.put, hlt, hlt']
      · rw [put_get_ne hd]
        refine hU.agree t (fun j oj hj1 hj hoj hun hdj => ?_)
        by_cases hji : j = i
        · subst hji
          have : oj = oi := Option.some.inj (hoj.symm.trans hoi)
          subst this
          exact hd hdj
        · exact ht j oj hj1 hj hoj (by rw [getD_set_ne true (Ne.symm hji)]; exact hun) hdj
    have hun' : unl hi (listed.setIfInBounds i true) = m := by
      have := unl_set hin hiun
      omega
    have hSt := hset i oi hilo hin hoi
    unfold wpOp
    simp only [hoi]
    by_cases hw : Region.wanted oi (yielded ops A.tmps) = true
    · obtain ⟨v, hy, hv⟩ := hSt.1 hw
      rw [hwn, if_pos hw]
      refine .inl ?_
      unfold Oper.wp
      rw [he]
      have hg := hy w hInv
      generalize (execOp A.eval oi).run P w = r at hg
      cases r with
      | halt x w' => exact hg.elim
      | ok nx w' =>
        cases nx <;> simp only [Gives] at hg <;> simp only [Oper.upon]
        case value u =>
          obtain ⟨rfl, hI'⟩ := hg
          exact ih _ _ _ hun' (hU' _ hv) hI'
        case skip =>
          obtain ⟨rfl, hI'⟩ := hg
          exact ih _ _ _ hun' (hU' _ hv) hI'
        case enter f args =>
          refine Calls.mono hg (fun e w'' ⟨hee, hI'⟩ => ?_)
          subst hee
          exact ih _ _ _ hun' (hU' _ hv) hI'
    · have hw' : Region.wanted oi (yielded ops A.tmps) = false := by simpa using hw
      rw [hwn, if_neg hw]
      exact ih _ _ _ hun' (hU' _ (hSt.2 hw')) hInv

/-- The walk over stretches, with the operations of cs between them. -/
def wpP (P : Program) (ops : Array Oper) (Q : Exit → Act → World → Prop) : List Nat → Nat → Act → World → Prop
  | [], lo, a, w => ∀ R : Act → Prop, (∀ A, (∀ w', Below w.heap.size w w' → Q .normal A w') → R A) → wpB P ops (fun w' => Below w.heap.size w w') R (ops.toList.drop lo) a
  | c :: cs, lo, a, w => ∀ R : Act → Prop, (∀ A, (∀ w', Below w.heap.size w w' → ∃ oc, ops[c]? = some oc ∧ oc.guard = none ∧ StepC P oc A (wpP P ops Q cs (c + 1)) ((execOp A.eval oc).run P w')) → R A) →
      wpB P ops (fun w' => Below w.heap.size w w') R ((ops.toList.take c).drop lo) a

def cutsOk (ops : Array Oper) : List Nat → Nat → Bool
  | [], lo => decide (lo ≤ ops.size) && segOk ops lo ops.size
  | c :: cs, lo => decide (lo ≤ c) && decide (c < ops.size) && segOk ops lo c && cutOk ops c && cutsOk ops cs (c + 1)

theorem finL_getD (n m i : Nat) (h : i < n) : (finL n m).getD i true = decide (i < m) := by simp [finL, h]
theorem finL_getD' (n m i : Nat) (h : i < n) : (finL n m).getD i false = decide (i < m) := by simp [finL, h]
theorem finL_size (n m : Nat) : (finL n m).size = n := by simp [finL]
theorem finL_closed (hB : backOk ops = true) (m : Nat) : Closed ops (finL ops.size m) := by
  refine ⟨finL_size _ _, fun j oj hj hl e he hbd => ?_⟩
  have hlt := (Array.getElem?_eq_some_iff.1 hj).1
  have hb := (backOk_spec hB).2 j oj hj e he hbd
  rw [finL_getD' _ _ _ hlt] at hl
  rw [finL_getD' _ _ _ (by omega)]
  simp only [decide_eq_true_eq] at hl ⊢
  omega
theorem finL_unl (n lo hi : Nat) (h1 : lo ≤ hi) (h2 : hi ≤ n) : unl hi (finL n lo) = hi - lo := by
  unfold unl
  have : (List.range hi).countP (fun i => !(finL n lo).getD i true) = (List.range hi).countP (fun i => decide (lo ≤ i)) := by
    apply List.countP_congr
    intro i hi'
    have := List.mem_range.1 hi'
    rw [finL_getD _ _ _ (by omega)]
    by_cases h : i < lo
    · simp [h, Nat.not_le.2 h]
    · simp [h, Nat.not_lt.1 h]
  rw [this]
  clear this
  induction hi with
  | zero => simp
  | succ k ih =>
    rw [List.range_succ, List.countP_append]
    rcases Nat.lt_or_ge k lo with h | h
    · have hz : (List.range k).countP (fun i => decide (lo ≤ i)) = 0 := by
        rw [List.countP_eq_zero]
        intro i hi'
        have := List.mem_range.1 hi'
        simp
        omega
      rw [hz]
      have : ¬ lo ≤ k := by omega
      simp [this]
      omega
    · have := ih h (by omega)
      simp [this, h]
      omega
theorem finL_set (n c : Nat) (hc : c < n) : (finL n c).setIfInBounds c true = finL n (c + 1) := by
  apply Array.ext_getElem?
  intro i
  by_cases hi : c = i
  · subst hi
    rw [Array.getElem?_setIfInBounds]
    simp [finL, hc]
  · rw [Array.getElem?_setIfInBounds_ne hi]
    rcases Nat.lt_or_ge i n with h | h
    · by_cases h1 : i < c
      · have h2 : i < c + 1 := by omega
        simp [finL, h, h1, h2]
      · have h2 : ¬ i < c + 1 := by omega
        simp [finL, h, h1, h2]
    · simp [finL, h]

theorem seg_facts {lo hi : Nat} (hhi : hi ≤ ops.size) (hS : segOk ops lo hi = true) : (((ops.toList.take hi).drop lo).Pairwise fun o o' => ∀ d, o'.dst = some d → o.dst ≠ some d ∧ d ∉ o.looksAt ops) ∧ (∀ o ∈ (ops.toList.take hi).drop lo, ∀ d, o.dst = some d → d ∉ o.looksAt ops) ∧ (∀ o ∈ (ops.toList.take hi).drop lo, ∃ i, lo ≤ i ∧ i < hi ∧ ops[i]? = some o) := by
  have hget : ∀ o ∈ (ops.toList.take hi).drop lo, ∃ i, lo ≤ i ∧ i < hi ∧ ops[i]? = some o := by
    intro o ho
    obtain ⟨i, hi'⟩ := List.getElem?_of_mem ho
    rw [List.getElem?_drop, List.getElem?_take] at hi'
    split at hi'
    · exact ⟨lo + i, by omega, by assumption, by simpa using hi'⟩
    · cases hi'
  refine ⟨?_, ?_, hget⟩
  · rw [List.pairwise_iff_getElem]
    intro i j hi' hj hij d hd
    rw [List.length_drop, List.length_take, Array.length_toList] at hi' hj
    have e1 : ((ops.toList.take hi).drop lo)[i]'(by rw [List.length_drop, List.length_take, Array.length_toList]; omega) = ops[lo + i]'(by omega) := by simp
    have e2 : ((ops.toList.take hi).drop lo)[j]'(by rw [List.length_drop, List.length_take, Array.length_toList]; omega) = ops[lo + j]'(by omega) := by simp
    rw [e2] at hd
    rw [e1]
    have := segOk_spec hS (lo + i) (ops[lo + i]'(by omega)) (lo + j) (ops[lo + j]'(by omega)) d (by simp) (by simp) (by omega) (by omega) (by omega) (by omega) hd
    exact ⟨this.1 (by omega), fun hl => by have := (this.2 hl).1; omega⟩
  · intro o ho d hd hl
    obtain ⟨i, h1, h2, hio⟩ := hget o ho
    have := (segOk_spec hS i o i o d hio hio h1 h2 h1 h2 hd).2 hl
    omega

/-- One stretch, from its walk. -/
theorem phase_run {lo hi : Nat} (hB : backOk ops = true) (hS : segOk ops lo hi = true) (h1 : lo ≤ hi) (hhi : hi ≤ ops.size) (hc : hi = ops.size ∨ cutOk ops hi = true) {K : Act → World → Prop} {a : Act} {w : World}
    (hK : ∀ A w', K A w' → wpAny P .any ops Q (ops.size - hi) (finL ops.size hi) A w')
    (h : ∀ R : Act → Prop, (∀ A, (∀ w', Below w.heap.size w w' → K A w') → R A) → wpB P ops (fun w' => Below w.heap.size w w') R ((ops.toList.take hi).drop lo) a) :
    wpAny P .any ops Q (ops.size - lo) (finL ops.size lo) a w := by
  have h' := h (fun A => ∀ w', Below w.heap.size w w' → K A w') (fun _ h => h)
  obtain ⟨hpw, hown, hget⟩ := seg_facts hhi hS
  obtain ⟨A, hRA, hsz, hdf, hA, hset⟩ := wpB_settles (P := P) (J := fun w' => Below w.heap.size w w') (ops := ops) (backOk_spec hB).1 ((ops.toList.take hi).drop lo) (fun o ho => List.mem_of_mem_take (List.mem_of_mem_drop ho)) hpw hown a h'
  have hmem : ∀ i o, lo ≤ i → i < hi → ops[i]? = some o → o ∈ (ops.toList.take hi).drop lo := fun i o hlo hin ho => by
    refine List.mem_of_getElem? (i := i - lo) ?_
    rw [List.getElem?_drop, List.getElem?_take_of_lt (by omega), show lo + (i - lo) = i by omega]
    simpa using ho
  have := wpAny_phase (P := P) (Inv := fun w' => Below w.heap.size w w') (Q := Q) (A := A) hB hS hhi hc (fun i o hlo hin ho => (hset o (hmem i o hlo hin ho)).inv (fun _ h => h) (fun _ _ h h' => below_step h h')) (fun w' hw' => hK A w' (hRA w' hw')) (hi - lo) (finL ops.size lo) a w (finL_unl _ _ _ h1 hhi)
    ⟨finL_closed hB lo, fun i hi' => by rw [finL_getD _ _ _ (by omega)]; simpa using hi', fun t ht1 ht2 => by rw [finL_getD _ _ _ ht2]; simp; omega, hdf.symm, hsz.symm, fun t ht => (hA t (fun o ho hd => by
      obtain ⟨i, hlo, hin, hio⟩ := hget o ho
      exact ht i o hlo hin hio (by rw [finL_getD _ _ _ (by omega)]; simp; omega) hd)).symm⟩ (Below.refl _ _)
  rw [show ops.size - lo = hi - lo + (ops.size - hi) by omega]
  exact this

theorem wpP_run (hB : backOk ops = true) : ∀ (cs : List Nat) (lo : Nat) (a : Act) (w : World), cutsOk ops cs lo = true → wpP P ops Q cs lo a w → wpAny P .any ops Q (ops.size - lo) (finL ops.size lo) a w
  | [], lo, a, w, hC, h => by
    simp only [cutsOk, Bool.and_eq_true, decide_eq_true_eq] at hC
    refine phase_run (K := fun A w' => Q .normal A w') hB hC.2 hC.1 (Nat.le_refl _) (.inl rfl) (fun A w' hq => ?_) (fun R hR => ?_)
    · rw [Nat.sub_self]
      refine ⟨?_, hq⟩
      rw [List.eq_nil_iff_forall_not_mem]
      intro i hi
      obtain ⟨hun, oi, hoi, _⟩ := mem_ready.1 hi
      have hlt := (Array.getElem?_eq_some_iff.1 hoi).1
      rw [finL_getD _ _ _ hlt] at hun
      simp at hun
      omega
    · have := h R hR
      rw [List.take_of_length_le (by simp)]
      exact this
  | c :: cs, lo, a, w, hC, h => by
    simp only [cutsOk, Bool.and_eq_true, decide_eq_true_eq] at hC
    obtain ⟨⟨⟨⟨h1, h2⟩, h3⟩, h4⟩, h5⟩ := hC
    refine phase_run (K := fun A w' => ∃ oc, ops[c]? = some oc ∧ oc.guard = none ∧ StepC P oc A (wpP P ops Q cs (c + 1)) ((execOp A.eval oc).run P w')) hB h3 h1 (by omega) (.inr h4) (fun A w' hq => ?_) h
    obtain ⟨oc, hoc, hgd, hst⟩ := hq
    have hnext := fun a' w'' (hh : wpP P ops Q cs (c + 1) a' w'') => wpP_run hB cs (c + 1) a' w'' h5 hh
    rw [show ops.size - c = (ops.size - (c + 1)) + 1 by omega]
    have hcl := finL_closed hB c
    have hready : c ∈ Region.ready .any ops (finL ops.size c) := by
      refine mem_ready.2 ⟨by rw [finL_getD _ _ _ h2]; simp, oc, hoc, fun e he hbd => ?_⟩
      have := (backOk_spec hB).2 c oc hoc e he hbd
      rw [finL_getD' _ _ _ (by omega)]
      simpa using this
    refine ⟨fun h => (by rw [h] at hready; cases hready), fun i hi => ?_⟩
    obtain ⟨hun, oi, hoi, _⟩ := mem_ready.1 hi
    have hlt := (Array.getElem?_eq_some_iff.1 hoi).1
    have hic : c ≤ i := by
      rw [finL_getD _ _ _ hlt] at hun
      simpa using hun
    have heq : i = c := by
      rcases Nat.lt_or_ge c i with hci | hci
      · have := (cut_ready h4 hcl hi hic).2 hci
        rw [finL_getD' _ _ _ h2] at this
        simp at this
      · omega
    subst heq
    rw [finL_set _ _ h2]
    unfold wpOp
    simp only [hoc]
    rw [if_pos (by unfold Region.wanted; simp [hgd])]
    refine .inl ?_
    unfold Oper.wp
    generalize (execOp A.eval oc).run P w' = r at hst
    cases r with
    | halt x w' => exact hst.elim
    | ok nx w' =>
      cases nx <;> simp only [StepC] at hst <;> simp only [Oper.upon]
      case value u => exact hnext _ _ hst
      case skip => exact hnext _ _ hst
      case enter f args =>
        refine Calls.mono hst (fun e w'' ⟨v, hee, hh⟩ => ?_)
        subst hee
        exact hnext _ _ hh

/-- THE RULE. -/
theorem wp_region_ph {l : List Oper} {id : Nat} {a : Act} {w : World} (cs : List Nat) (hm : P.follows .mixedOrders = true) (hB : (backOk l.toArray && cutsOk l.toArray cs 0) = true) (h : wpP P l.toArray Q cs 0 a w.drew) : (Code.region id l.toArray true).wp P Q a w := by
  simp only [Bool.and_eq_true] at hB
  refine wp_region_any hm ?_
  have := wpP_run (P := P) (Q := Q) hB.1 cs 0 a w.drew hB.2 h
  have e : finL l.toArray.size 0 = Array.replicate l.toArray.size false := by
    apply Array.ext_getElem?
    intro i
    rcases Nat.lt_or_ge i l.length with h | h
    · simp [finL, h]
    · simp [finL, h]
  rw [e, Nat.sub_zero] at this
  exact this

/-- The call between. -/
theorem stepC_call {o : Oper} {V : Act} {K : Act → World → Prop} {f : FuncId} {args : Array Value} {w w' : World} (hr : (execOp V.eval o).run P w = .ok (.enter f args) w') (h : Calls P f args w' (fun e w'' => ∃ v, e = .returned v ∧ K (V.put o.dst v) w'')) : StepC P o V K ((execOp V.eval o).run P w) := by
  rw [hr]
  exact h
theorem wpP_nil {l : List Oper} {lo : Nat} {a : Act} {w : World} (h : ∀ R : Act → Prop, (∀ A, (∀ w', Below w.heap.size w w' → Q .normal A w') → R A) → wpB P l.toArray (fun w' => Below w.heap.size w w') R (l.drop lo) a) : wpP P l.toArray Q [] lo a w := h
theorem wpP_cons {l : List Oper} {c : Nat} {cs : List Nat} {lo : Nat} {a : Act} {w : World} (h : ∀ R : Act → Prop, (∀ A, (∀ w', Below w.heap.size w w' → ∃ oc, l[c]? = some oc ∧ oc.guard = none ∧ StepC P oc A (wpP P l.toArray Q cs (c + 1)) ((execOp A.eval oc).run P w')) → R A) →
      wpB P l.toArray (fun w' => Below w.heap.size w w') R ((l.take c).drop lo) a) : wpP P l.toArray Q (c :: cs) lo a w := fun R hR => h R (fun A hA => hR A (fun w' hw' => by
    obtain ⟨oc, h1, h2, h3⟩ := hA w' hw'
    exact ⟨oc, by simpa using h1, h2, h3⟩))
theorem below_undrew {w w' : World} (h : Below w.drew.heap.size w.drew w') : Below w.heap.size w w' := ⟨h.os, h.tape, h.output, h.size, h.block⟩
end
end Go.Proofs.YtmcodendnpjlaaaDoor
