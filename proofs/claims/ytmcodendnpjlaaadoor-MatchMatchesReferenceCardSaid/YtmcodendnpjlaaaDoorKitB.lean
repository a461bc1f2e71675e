/- A second rule for regions that draw their order: operations that leave all that was there as it was, and one that makes a block of its own at whatever time. No statement about the program. -/
import Derived.Test.YtmcodendnpjlaaaDoorKit
namespace Go.Proofs.YtmcodendnpjlaaaDoor
open Go.RowKit

section
variable {P : Program} {ops : Array Oper} {Inv J : World → Prop}

/-- The operation comes to v, and leaves all that was there as it was. -/
def YieldsB (P : Program) (J : World → Prop) (o : Oper) (v : Value) (a : Act) : Prop :=
  ∀ w, J w → Gives P (fun w' => Below w.heap.size w w') v ((execOp a.eval o).run P w)

theorem YieldsB.inv {o : Oper} {v : Value} {a : Act} {K : World → Prop} (h : YieldsB P J o v a) (hK : ∀ w, K w → J w) (hS : ∀ w w', K w → Below w.heap.size w w' → K w') : YieldsInv P K o v a := by
  intro w hk
  have hg := h w (hK w hk)
  generalize (execOp a.eval o).run P w = r at hg
  cases r with
  | halt x w' => exact hg.elim
  | ok nx w' =>
    cases nx <;> simp only [Gives] at hg ⊢
    case value u => exact ⟨hg.1, hS _ _ hk hg.2⟩
    case skip => exact ⟨hg.1, hS _ _ hk hg.2⟩
    case enter f args => exact Calls.mono hg (fun e w'' hh => ⟨hh.1, hS _ _ hk hh.2⟩)

def wpB (P : Program) (ops : Array Oper) (J : World → Prop) (R : Act → Prop) : List Oper → Act → Prop
  | [], a => R a
  | o :: rest, a =>
    if Region.wanted o (yielded ops a.tmps) then ∃ v, YieldsB P J o v a ∧ wpB P ops J R rest (a.put o.dst v)
    else wpB P ops J R rest (a.put o.dst undef)

def SettledB (P : Program) (ops : Array Oper) (J : World → Prop) (o : Oper) (A : Act) : Prop :=
  (Region.wanted o (yielded ops A.tmps) = true → ∃ v, YieldsB P J o v A ∧ A.put o.dst v = A) ∧
  (Region.wanted o (yielded ops A.tmps) = false → A.put o.dst undef = A)

theorem SettledB.inv {o : Oper} {A : Act} {K : World → Prop} (h : SettledB P ops J o A) (hK : ∀ w, K w → J w) (hS : ∀ w w', K w → Below w.heap.size w w' → K w') : Settled P ops K o A :=
  ⟨fun hw => let ⟨v, hy, hv⟩ := h.1 hw; ⟨v, hy.inv hK hS, hv⟩, h.2⟩

/-- The walk in the text's order gives the frame at the end, at which every operation is settled. -/
theorem wpB_settles {R : Act → Prop} (hsel : ∀ o ∈ ops.toList, ∀ cs b, o.op ≠ .select cs b) :
    ∀ (l : List Oper), (∀ o ∈ l, o ∈ ops.toList) →
      (l.Pairwise fun o o' => ∀ d, o'.dst = some d → o.dst ≠ some d ∧ d ∉ o.looksAt ops) → (∀ o ∈ l, ∀ d, o.dst = some d → d ∉ o.looksAt ops) →
      ∀ a, wpB P ops J R l a → ∃ A, R A ∧ A.tmps.size = a.tmps.size ∧ A.defers = a.defers ∧
        (∀ t, (∀ o ∈ l, o.dst ≠ some t) → A.tmps[t]? = a.tmps[t]?) ∧ ∀ o ∈ l, SettledB P ops J o A := by
  intro l
  induction l with
  | nil => intro _ _ _ a h; exact ⟨a, h, rfl, rfl, fun _ _ => rfl, fun o ho => by cases ho⟩
  | cons o rest ih =>
    intro hmem hpw hown a h
    rw [List.pairwise_cons] at hpw
    have hlook : ∀ {A : Act} {v : Value}, (∀ t, (∀ o' ∈ rest, o'.dst ≠ some t) → A.tmps[t]? = (a.put o.dst v).tmps[t]?) → ∀ t ∈ o.looksAt ops, a.tmps[t]? = A.tmps[t]? := by
      intro A v hA t ht
      have h1 : ∀ o' ∈ rest, o'.dst ≠ some t := fun o' ho' hd => (hpw.1 o' ho' t hd).2 ht
      rw [hA t h1, put_get_ne]
      intro hd
      exact hown o (List.mem_cons_self ..) t hd ht
    have hself : ∀ {A : Act} {v : Value}, A.tmps.size = (a.put o.dst v).tmps.size → (∀ t, (∀ o' ∈ rest, o'.dst ≠ some t) → A.tmps[t]? = (a.put o.dst v).tmps[t]?) → A.put o.dst v = A := by
      intro A v hsz hA
      refine put_self (a := a) (fun d hd => ?_) (by rw [hsz, put_size])
      exact hA d (fun o' ho' hd' => (hpw.1 o' ho' d hd').1 hd)
    unfold wpB at h
    split at h
    · rename_i hw
      obtain ⟨v, hy, hr⟩ := h
      obtain ⟨A, hRA, hsz, hdf, hA, hset⟩ := ih (fun o' ho' => hmem o' (List.mem_cons_of_mem _ ho')) hpw.2 (fun o' ho' => hown o' (List.mem_cons_of_mem _ ho')) _ hr
      have hl := hlook hA
      have he := exec_of_agree (ops := ops) (hsel o (hmem o (List.mem_cons_self ..))) hl
      have hwn := wanted_of_agree (ops := ops) hl
      refine ⟨A, hRA, by rw [hsz, put_size], by rw [hdf, put_defers'], fun t ht => ?_, fun o' ho' => ?_⟩
      · rw [hA t (fun o' ho' => ht o' (List.mem_cons_of_mem _ ho')), put_get_ne (ht o (List.mem_cons_self ..))]
      · rcases List.mem_cons.1 ho' with rfl | ho'
        · refine ⟨fun _ => ⟨v, ?_, hself hsz hA⟩, fun hf => ?_⟩
          · intro w hJ
            rw [← he]
            exact hy w hJ
          · rw [← hwn, hw] at hf; cases hf
        · exact hset o' ho'
    · rename_i hw
      obtain ⟨A, hRA, hsz, hdf, hA, hset⟩ := ih (fun o' ho' => hmem o' (List.mem_cons_of_mem _ ho')) hpw.2 (fun o' ho' => hown o' (List.mem_cons_of_mem _ ho')) _ h
      have hl := hlook hA
      have hwn := wanted_of_agree (ops := ops) hl
      refine ⟨A, hRA, by rw [hsz, put_size], by rw [hdf, put_defers'], fun t ht => ?_, fun o' ho' => ?_⟩
      · rw [hA t (fun o' ho' => ht o' (List.mem_cons_of_mem _ ho')), put_get_ne (ht o (List.mem_cons_self ..))]
      · rcases List.mem_cons.1 ho' with rfl | ho'
        · refine ⟨fun hf => ?_, fun _ => hself hsz hA⟩
          rw [← hwn] at hf; exact absurd hf hw
        · exact hset o' ho'

theorem wpAny_invX {n : Nat} {A : Act} (X : Nat → Prop) {Q : Exit → Act → World → Prop} (hB : orderOk ops n = true) (hset : ∀ i o, i < n → ¬ X i → ops[i]? = some o → Settled P ops Inv o A)
    (hR : ∀ w, Inv w → wpList P ops Q (ops.toList.drop n) A w) :
    ∀ (m : Nat) (listed : Array Bool) (a : Act) (w : World), unl n listed = m → (∀ i, X i → listed.getD i true = true) → Upto ops n A listed a → Inv w → wpAny P .any ops Q (m + (ops.size - n)) listed a w := by
  simp only [orderOk, Bool.and_eq_true, Bool.or_eq_true, decide_eq_true_eq] at hB
  obtain ⟨⟨hI, hT⟩, hseq⟩ := hB
  obtain ⟨hsel, hnle, hback, hdis⟩ := invOk_spec hI
  intro m
  induction m with
  | zero =>
    intro listed a w hm hX hU hInv
    have hall : ∀ i, i < n → listed.getD i true = true := by
      intro i hi
      unfold unl at hm
      rw [List.countP_eq_zero] at hm
      have := hm i (List.mem_range.2 hi)
      simpa using this
    have ha : a = A := by
      have h1 : a.tmps = A.tmps := by
        apply Array.ext_getElem?
        intro t
        refine hU.agree t (fun j oj hj _ hun => ?_)
        rw [hall j hj] at hun; cases hun
      have h2 := hU.dfs
      cases a; cases A; simp_all
    have hl : listed = finL ops.size n := by
      apply Array.ext_getElem?
      intro i
      rcases Nat.lt_or_ge i ops.size with hi | hi
      · have hi' : i < listed.size := by rw [hU.head.size]; exact hi
        by_cases hin : i < n
        · have := hall i hin
          simp [hi'] at this
          simp [finL, hi, hi', hin, this]
        · have := hU.head.tail i (by omega) hi
          simp [hi'] at this
          simp [finL, hi, hi', hin, this]
      · have hi' : listed.size ≤ i := by rw [hU.head.size]; exact hi
        simp [finL, hi, hi']
    subst ha
    subst hl
    have := wpAny_of_seq (P := P) (md := .any) (Q' := Q) (ops.toList.drop n) n (finL ops.size n) a w (fun j => by simp [List.getElem?_drop]) (by simpa using hseq) (hR w hInv)
    simpa using this
  | succ m ih =>
    intro listed a w hm hX hU hInv
    have hex : ∃ i, i < n ∧ listed.getD i true = false := by
      have : 0 < unl n listed := by omega
      unfold unl at this
      rw [List.countP_pos_iff] at this
      obtain ⟨i, hi, h⟩ := this
      exact ⟨i, List.mem_range.1 hi, by simpa using h⟩
    have hsmall : ∀ k i, i ≤ k → i < n → listed.getD i true = false → ∃ j, j ∈ Region.ready .any ops listed := by
      intro k
      induction k with
      | zero =>
        intro i hi hin hun
        have hlt : i < ops.size := by omega
        refine ⟨i, mem_ready.2 ⟨hun, ops[i], by simp [hlt], fun e he hbd => ?_⟩⟩
        have := hback i ops[i] (by simp [hlt]) e he hbd
        omega
      | succ k ihk =>
        intro i hi hin hun
        have hlt : i < ops.size := by omega
        by_cases hex2 : ∃ e ∈ (ops[i]).after, Region.binds .any e = true ∧ listed.getD e.on false = false
        · obtain ⟨e, he, hbd, hf⟩ := hex2
          have hlt2 := hback i ops[i] (by simp [hlt]) e he hbd
          exact ihk e.on (by omega) (by omega) (getD_in (by rw [hU.head.size]; omega) hf)
        · refine ⟨i, mem_ready.2 ⟨hun, ops[i], by simp [hlt], fun e he hbd => ?_⟩⟩
          cases hf : listed.getD e.on false with
          | true => rfl
          | false => exact absurd ⟨e, he, hbd, hf⟩ hex2
    obtain ⟨i0, hi0, hun0⟩ := hex
    obtain ⟨j0, hj0⟩ := hsmall i0 i0 (Nat.le_refl _) hi0 hun0
    rw [show m + 1 + (ops.size - n) = (m + (ops.size - n)) + 1 by omega]
    refine ⟨fun h => (by rw [h] at hj0; cases hj0), fun i hi => ?_⟩
    obtain ⟨hiun, oi, hoi, hall⟩ := mem_ready.1 hi
    have hin : i < n := by
      rcases Nat.lt_or_ge i n with h | h
      · exact h
      · have hilt := (Array.getElem?_eq_some_iff.1 hoi).1
        rcases hT with hT | ⟨hs, hc⟩
        · omega
        · exact absurd hi (tail_waits hs hc (by omega) hU.head _ i0 rfl hi0 hun0 i h)
    have hag : ∀ t ∈ oi.looksAt ops, a.tmps[t]? = A.tmps[t]? := by
      intro t ht
      refine hU.agree t (fun j oj hj hoj hun hd => ?_)
      obtain ⟨_, h2⟩ := hdis i oi j oj t hoi hoj hin hj hd
      obtain ⟨hji, hwf⟩ := h2 ht
      obtain ⟨o', ho', e, he, hb, hon⟩ := Region.waitsFor_spec hwf
      have : o' = oi := Option.some.inj (ho'.symm.trans hoi)
      subst this
      have h3 := hall e he hb
      rw [hon, getD_both hun] at h3
      cases h3
    have he := exec_of_agree (ops := ops) (hsel oi (by
      have := Array.mem_of_getElem? hoi
      simpa using this)) hag
    have hwn := wanted_of_agree (ops := ops) hag
    have hU' : ∀ v, A.put oi.dst v = A → Upto ops n A (listed.setIfInBounds i true) (a.put oi.dst v) := by
      intro v hv
      refine ⟨hU.head.set hi hin, by rw [put_defers']; exact hU.dfs, by rw [put_size]; exact hU.sz, fun t ht => ?_⟩
      by_cases hd : oi.dst = some t
      · rw [← hv, hd]
        by_cases hlt : t < a.tmps.size
        · have hlt' : t < A.tmps.size := by rw [← hU.sz]; exact hlt
          simp [Act.put, hlt, hlt']
        · have hlt' : ¬ t < A.tmps.size := by rw [← hU.sz]; exact hlt
          simp [Act.put, hlt, hlt']
      · rw [put_get_ne hd]
        refine hU.agree t (fun j oj hj hoj hun hdj => ?_)
        by_cases hji : j = i
        · subst hji
          have : oj = oi := Option.some.inj (hoj.symm.trans hoi)
          subst this
          exact hd hdj
        · exact ht j oj hj hoj (by rw [getD_set_ne true (Ne.symm hji)]; exact hun) hdj
    have hun' : unl n (listed.setIfInBounds i true) = m := by
      have := unl_set hin hiun
      omega
    have hnX : ¬ X i := fun h => by rw [hX i h] at hiun; cases hiun
    have hX' : ∀ j, X j → (listed.setIfInBounds i true).getD j true = true := fun j hj => by
      have hne : i ≠ j := fun e => hnX (e ▸ hj)
      rw [getD_set_ne true hne]
      exact hX j hj
    have hS := hset i oi hin hnX hoi
    unfold wpOp
    simp only [hoi]
    by_cases hw : Region.wanted oi (yielded ops A.tmps) = true
    · obtain ⟨v, hy, hv⟩ := hS.1 hw
      rw [hwn, if_pos hw]
      refine .inl ?_
      unfold Oper.wp
      rw [he]
      have hg := hy w hInv
      generalize (execOp A.eval oi).run P w = r at hg
      cases r with
      | halt x w' => exact hg.elim
      | ok nx w' =>
        cases nx <;> simp only [Gives] at hg <;> simp only [Oper.upon]
        case value u =>
          obtain ⟨rfl, hI'⟩ := hg
          exact ih _ _ _ hun' hX' (hU' _ hv) hI'
        case skip =>
          obtain ⟨rfl, hI'⟩ := hg
          exact ih _ _ _ hun' hX' (hU' _ hv) hI'
        case enter f args =>
          refine Calls.mono hg (fun e w'' ⟨hee, hI'⟩ => ?_)
          subst hee
          exact ih _ _ _ hun' hX' (hU' _ hv) hI'
    · have hw' : Region.wanted oi (yielded ops A.tmps) = false := by simpa using hw
      rw [hwn, if_neg hw]
      exact ih _ _ _ hun' hX' (hU' _ (hS.2 hw')) hInv


/-- Written into a slot that the operation neither reads nor writes: settled as before. -/
theorem SettledB.put {o : Oper} {A : Act} {s : Tmp} {u : Value} (hsel : ∀ cs b, o.op ≠ .select cs b) (h : SettledB P ops J o A) (hl : s ∉ o.looksAt ops) (hd : o.dst ≠ some s) : SettledB P ops J o (A.put (some s) u) := by
  have hag : ∀ t ∈ o.looksAt ops, A.tmps[t]? = (A.put (some s) u).tmps[t]? := fun t ht => by
    rw [put_get_ne]
    intro e
    cases e
    exact hl ht
  have he := exec_of_agree (ops := ops) hsel hag
  have hwn := wanted_of_agree (ops := ops) (o := o) hag
  have hcomm : ∀ v, A.put o.dst v = A → (A.put (some s) u).put o.dst v = A.put (some s) u := by
    intro v hv
    cases hdst : o.dst with
    | none => rfl
    | some d =>
      have hne : d ≠ s := fun e => hd (by rw [hdst, e])
      rw [hdst] at hv
      show ({ A with tmps := (A.tmps.setIfInBounds s u).setIfInBounds d v } : Act) = _
      have h1 : A.tmps.setIfInBounds d v = A.tmps := congrArg Act.tmps hv
      have h2 : (A.tmps.setIfInBounds s u).setIfInBounds d v = A.tmps.setIfInBounds s u := by
        rw [Array.setIfInBounds_comm _ _ (Ne.symm hne), h1]
      rw [h2]
      rfl
  refine ⟨fun hw => ?_, fun hw => ?_⟩
  · rw [← hwn] at hw
    obtain ⟨v, hy, hv⟩ := h.1 hw
    refine ⟨v, fun w hj => ?_, hcomm v hv⟩
    rw [← he]
    exact hy w hj
  · rw [← hwn] at hw
    exact hcomm _ (h.2 hw)

/-- One operation (number k) makes a block, at whatever time; the others leave all that was there as it was. -/
theorem wpAny_one {n k : Nat} {A : Act} {ok : Oper} {s : Tmp} {obj : Obj} {mk : Nat → Value} {base : Nat} {Q : Exit → Act → World → Prop} (hB : orderOk ops n = true)
    (hk : k < n) (hok : ops[k]? = some ok) (hdst : ok.dst = some s) (hgd : ok.guard = none)
    (hlook : ∀ i oi, i < n → ops[i]? = some oi → s ∉ oi.looksAt ops)
    (hJ : ∀ w w', J w → Below w.heap.size w w' → J w') (hbase : ∀ w, J w → base ≤ w.heap.size)
    (hrun : ∀ w, J w → (execOp A.eval ok).run P w = .ok (.value (mk w.heap.size)) (w.alloc obj))
    (hset : ∀ i o, i < n → i ≠ k → ops[i]? = some o → SettledB P ops J o A)
    (hR : ∀ g w, base ≤ g → J w → w.heap[g]? = some obj → wpList P ops Q (ops.toList.drop n) (A.put (some s) (mk g)) w) :
    ∀ (m : Nat) (listed : Array Bool) (a : Act) (w : World), unl n listed = m → listed.getD k true = false → Upto ops n A listed a → J w → wpAny P .any ops Q (m + (ops.size - n)) listed a w := by
  have hB' := hB
  simp only [orderOk, Bool.and_eq_true, Bool.or_eq_true, decide_eq_true_eq] at hB'
  obtain ⟨⟨hI, hT⟩, _⟩ := hB'
  obtain ⟨hsel, hnle, hback, hdis⟩ := invOk_spec hI
  intro m
  induction m with
  | zero =>
    intro listed a w hm hkun hU hInv
    unfold unl at hm
    rw [List.countP_eq_zero] at hm
    have := hm k (List.mem_range.2 hk)
    simp only [hkun] at this
    exact absurd rfl this
  | succ m ih =>
    intro listed a w hm hkun hU hInv
    have hsmall : ∀ k i, i ≤ k → i < n → listed.getD i true = false → ∃ j, j ∈ Region.ready .any ops listed := by
      intro k
      induction k with
      | zero =>
        intro i hi hin hun
        have hlt : i < ops.size := by omega
        refine ⟨i, mem_ready.2 ⟨hun, ops[i], by simp [hlt], fun e he hbd => ?_⟩⟩
        have := hback i ops[i] (by simp [hlt]) e he hbd
        omega
      | succ k ihk =>
        intro i hi hin hun
        have hlt : i < ops.size := by omega
        by_cases hex2 : ∃ e ∈ (ops[i]).after, Region.binds .any e = true ∧ listed.getD e.on false = false
        · obtain ⟨e, he, hbd, hf⟩ := hex2
          have hlt2 := hback i ops[i] (by simp [hlt]) e he hbd
          exact ihk e.on (by omega) (by omega) (getD_in (by rw [hU.head.size]; omega) hf)
        · refine ⟨i, mem_ready.2 ⟨hun, ops[i], by simp [hlt], fun e he hbd => ?_⟩⟩
          cases hf : listed.getD e.on false with
          | true => rfl
          | false => exact absurd ⟨e, he, hbd, hf⟩ hex2
    obtain ⟨j0, hj0⟩ := hsmall k k (Nat.le_refl _) hk hkun
    rw [show m + 1 + (ops.size - n) = (m + (ops.size - n)) + 1 by omega]
    refine ⟨fun h => (by rw [h] at hj0; cases hj0), fun i hi => ?_⟩
    obtain ⟨hiun, oi, hoi, hall⟩ := mem_ready.1 hi
    have hin : i < n := by
      rcases Nat.lt_or_ge i n with h | h
      · exact h
      · have hilt := (Array.getElem?_eq_some_iff.1 hoi).1
        rcases hT with hT | ⟨hs, hc⟩
        · omega
        · exact absurd hi (tail_waits hs hc (by omega) hU.head _ k rfl hk hkun i h)
    have hag : ∀ t ∈ oi.looksAt ops, a.tmps[t]? = A.tmps[t]? := by
      intro t ht
      refine hU.agree t (fun j oj hj hoj hun hd => ?_)
      obtain ⟨_, h2⟩ := hdis i oi j oj t hoi hoj hin hj hd
      obtain ⟨hji, hwf⟩ := h2 ht
      obtain ⟨o', ho', e, he, hb, hon⟩ := Region.waitsFor_spec hwf
      have : o' = oi := Option.some.inj (ho'.symm.trans hoi)
      subst this
      have h3 := hall e he hb
      rw [hon, getD_both hun] at h3
      cases h3
    have hselI : ∀ cs b, oi.op ≠ .select cs b := hsel oi (by
      have := Array.mem_of_getElem? hoi
      simpa using this)
    have he := exec_of_agree (ops := ops) hselI hag
    have hwn := wanted_of_agree (ops := ops) hag
    have hun' : unl n (listed.setIfInBounds i true) = m := by
      have := unl_set hin hiun
      omega
    by_cases hik : i = k
    · subst hik
      obtain rfl : oi = ok := Option.some.inj (hoi.symm.trans hok)
      unfold wpOp
      simp only [hoi]
      have hwt : Region.wanted oi (yielded ops a.tmps) = true := by simp [Region.wanted, hgd]
      rw [if_pos hwt]
      refine .inl ?_
      unfold Oper.wp
      rw [he, hrun w hInv]
      simp only [Oper.upon]
      rw [hdst]
      have hb1 : Below w.heap.size w (w.alloc obj) := (Below.refl _ _).alloc (Nat.le_refl _) obj
      refine wpAny_invX (P := P) (Inv := fun w' => J w' ∧ w'.heap[w.heap.size]? = some obj) (A := A.put (some s) (mk w.heap.size)) (· = i) hB (fun j o hj hne hoj => ?_)
        (fun w' hw' => hR _ w' (hbase w hInv) hw'.1 hw'.2) m _ _ _ hun' (fun j hj => ?_) ⟨hU.head.set hi hin, ?_, ?_, fun t ht => ?_⟩ ⟨hJ _ _ hInv hb1, heap_alloc_new w obj⟩
      · have hselJ : ∀ cs b, o.op ≠ .select cs b := hsel o (by
          have := Array.mem_of_getElem? hoj
          simpa using this)
        have hdo : o.dst ≠ some s := (hdis j o i oi s hoj hoi hj hin hdst).1 hne
        refine (SettledB.put hselJ (hset j o hj hne hoj) (hlook j o hj hoj) hdo).inv (fun _ h => h.1) (fun w1 w2 h1 h2 => ⟨hJ _ _ h1.1 h2, ?_⟩)
        have hlt : w.heap.size < w1.heap.size := (Array.getElem?_eq_some_iff.1 h1.2).1
        exact (h2.block _ hlt).trans h1.2
      · subst hj
        have : j < listed.size := by rw [hU.head.size]; omega
        simp [this]
      · rw [put_defers', put_defers']; exact hU.dfs
      · rw [put_size, put_size]; exact hU.sz
      · by_cases hts : t = s
        · subst hts
          by_cases hlt : t < a.tmps.size
          · have hlt' : t < A.tmps.size := by rw [← hU.sz]; exact hlt
            simp [Act.put, hlt, hlt']
          · have hlt' : ¬ t < A.tmps.size := by rw [← hU.sz]; exact hlt
            simp [Act.put, hlt, hlt']
        · have hne : some s ≠ some t := fun e => hts (by cases e; rfl)
          rw [put_get_ne hne, put_get_ne hne]
          refine hU.agree t (fun j oj hj hoj hun hdj => ?_)
          by_cases hji : j = i
          · subst hji
            obtain rfl : oj = oi := Option.some.inj (hoj.symm.trans hoi)
            rw [hdst] at hdj
            exact hne hdj
          · exact ht j oj hj hoj (by rw [getD_set_ne true (Ne.symm hji)]; exact hun) hdj
    · have hU' : ∀ v, A.put oi.dst v = A → Upto ops n A (listed.setIfInBounds i true) (a.put oi.dst v) := by
        intro v hv
        refine ⟨hU.head.set hi hin, by rw [put_defers']; exact hU.dfs, by rw [put_size]; exact hU.sz, fun t ht => ?_⟩
        by_cases hd : oi.dst = some t
        · rw [← hv, hd]
          by_cases hlt : t < a.tmps.size
          · have hlt' : t < A.tmps.size := by rw [← hU.sz]; exact hlt
            simp [Act.put, hlt, hlt']
          · have hlt' : ¬ t < A.tmps.size := by rw [← hU.sz]; exact hlt
            simp [Act.put, hlt, hlt']
        · rw [put_get_ne hd]
          refine hU.agree t (fun j oj hj hoj hun hdj => ?_)
          by_cases hji : j = i
          · subst hji
            have : oj = oi := Option.some.inj (hoj.symm.trans hoi)
            subst this
            exact hd hdj
          · exact ht j oj hj hoj (by rw [getD_set_ne true (Ne.symm hji)]; exact hun) hdj
      have hk' : (listed.setIfInBounds i true).getD k true = false := by rw [getD_set_ne true hik]; exact hkun
      have hS := (hset i oi hin hik hoi).inv (K := J) (fun _ h => h) hJ
      unfold wpOp
      simp only [hoi]
      by_cases hw : Region.wanted oi (yielded ops A.tmps) = true
      · obtain ⟨v, hy, hv⟩ := hS.1 hw
        rw [hwn, if_pos hw]
        refine .inl ?_
        unfold Oper.wp
        rw [he]
        have hg := hy w hInv
        generalize (execOp A.eval oi).run P w = r at hg
        cases r with
        | halt x w' => exact hg.elim
        | ok nx w' =>
          cases nx <;> simp only [Gives] at hg <;> simp only [Oper.upon]
          case value u =>
            obtain ⟨rfl, hI'⟩ := hg
            exact ih _ _ _ hun' hk' (hU' _ hv) hI'
          case skip =>
            obtain ⟨rfl, hI'⟩ := hg
            exact ih _ _ _ hun' hk' (hU' _ hv) hI'
          case enter f args =>
            refine Calls.mono hg (fun e w'' ⟨hee, hI'⟩ => ?_)
            subst hee
            exact ih _ _ _ hun' hk' (hU' _ hv) hI'
      · have hw' : Region.wanted oi (yielded ops A.tmps) = false := by simpa using hw
        rw [hwn, if_neg hw]
        exact ih _ _ _ hun' hk' (hU' _ (hS.2 hw')) hInv

/-- Nothing among the first n reads the slot of operation k, which is not guarded. -/
def freshOk (ops : Array Oper) (n k : Nat) (s : Tmp) : Bool :=
  decide (k < n) && (match ops[k]? with | some o => o.dst == some s && o.guard.isNone | none => false) && (List.range n).all fun i => match ops[i]? with | none => true | some o => !(o.looksAt ops).contains s

theorem freshOk_spec {n k : Nat} {s : Tmp} (h : freshOk ops n k s = true) : k < n ∧ (∃ ok, ops[k]? = some ok ∧ ok.dst = some s ∧ ok.guard = none) ∧ ∀ i oi, i < n → ops[i]? = some oi → s ∉ oi.looksAt ops := by
  unfold freshOk at h
  simp only [Bool.and_eq_true, decide_eq_true_eq] at h
  obtain ⟨⟨h1, h2⟩, h3⟩ := h
  refine ⟨h1, ?_, fun i oi hi hoi => ?_⟩
  · cases hk : ops[k]? with
    | none => rw [hk] at h2; cases h2
    | some o =>
      rw [hk] at h2
      simp only [Bool.and_eq_true, beq_iff_eq, Option.isNone_iff_eq_none] at h2
      exact ⟨o, rfl, h2.1, h2.2⟩
  · rw [List.all_eq_true] at h3
    have := h3 i (List.mem_range.2 hi)
    simp only [hoi, Bool.not_eq_true', List.contains_eq_mem, decide_eq_false_iff_not] at this
    exact this

section
variable {l : List Oper}
theorem walk_facts {n : Nat} (hB : orderOk l.toArray n = true) : (∀ o ∈ l, ∀ cs b, o.op ≠ .select cs b) ∧ n ≤ l.length ∧ ((l.take n).Pairwise fun o o' => ∀ d, o'.dst = some d → o.dst ≠ some d ∧ d ∉ o.looksAt l.toArray) ∧ (∀ o ∈ l.take n, ∀ d, o.dst = some d → d ∉ o.looksAt l.toArray) ∧ (∀ o ∈ l.take n, ∃ i, i < n ∧ l[i]? = some o) := by
  have hB' := hB
  simp only [orderOk, Bool.and_eq_true] at hB'
  obtain ⟨hsel, hnle, hback, hdis⟩ := invOk_spec hB'.1.1
  have hget : ∀ o ∈ l.take n, ∃ i, i < n ∧ l[i]? = some o := by
    intro o ho
    obtain ⟨i, hi⟩ := List.getElem?_of_mem ho
    have hlt : i < n := by
      rw [List.getElem?_take] at hi
      split at hi
      · assumption
      · cases hi
    exact ⟨i, hlt, by rw [List.getElem?_take_of_lt hlt] at hi; exact hi⟩
  refine ⟨by simpa using hsel, by simpa using hnle, ?_, ?_, hget⟩
  · rw [List.pairwise_iff_getElem]
    intro i j hi hj hij d hd
    have hi' : i < n ∧ i < l.length := by rw [List.length_take] at hi; omega
    have hj' : j < n ∧ j < l.length := by rw [List.length_take] at hj; omega
    have e1 : (l.take n)[i] = l[i]'hi'.2 := by simp
    have e2 : (l.take n)[j] = l[j]'hj'.2 := by simp
    rw [e2] at hd
    rw [e1]
    have := hdis i (l[i]'hi'.2) j (l[j]'hj'.2) d (by simp [hi'.2]) (by simp [hj'.2]) hi'.1 hj'.1 hd
    exact ⟨this.1 (by omega), fun hl => by have := (this.2 hl).1; omega⟩
  · intro o ho d hd hl
    obtain ⟨i, hi, hio⟩ := hget o ho
    have := (hdis i o i o d (by simpa using hio) (by simpa using hio) hi hi hd).2 hl
    omega

theorem unl_none (n m : Nat) (h : n ≤ m) : unl n (Array.replicate m false) = n := by
  unfold unl
  rw [List.countP_eq_length.2, List.length_range]
  intro i hi
  have : i < m := by have := List.mem_range.1 hi; omega
  simp [this]

/-- Whatever order is drawn. -/
theorem wpAny_B {Q : Exit → Act → World → Prop} {a : Act} {w : World} (n : Nat) (J : World → Prop) (hB : orderOk l.toArray n = true)
    (hJ : ∀ w w', J w → Below w.heap.size w w' → J w') (h0 : J w.drew) (h' : ∀ R : Act → Prop, (∀ A, (∀ w', J w' → wpList P l.toArray Q (l.drop n) A w') → R A) → wpB P l.toArray J R (l.take n) a) : wpAny P .any l.toArray Q l.toArray.size (Array.replicate l.toArray.size false) a w.drew := by
  have h := h' (fun A => ∀ w', J w' → wpList P l.toArray Q (l.drop n) A w') (fun _ h => h)
  obtain ⟨hsel, hnle, hpw, hown, hget⟩ := walk_facts hB
  obtain ⟨A, hRA, hsz, hdf, hA, hset⟩ := wpB_settles (P := P) (J := J) (ops := l.toArray) (by simpa using hsel) (l.take n) (fun o ho => by simpa using List.mem_of_mem_take ho) hpw hown a h
  have := wpAny_inv (P := P) (Inv := J) (Q := Q) (A := A) hB (fun i o hi ho => (hset o (by
      refine List.mem_of_getElem? (i := i) ?_
      rw [List.getElem?_take_of_lt hi]; simpa using ho)).inv (fun _ h => h) hJ) (by simpa using hRA) n (Array.replicate l.toArray.size false) a w.drew (unl_none _ _ (by simpa using hnle))
    ⟨⟨by simp, fun j oj _ hl => (by rw [getD_replicate_false] at hl; cases hl), fun t _ ht => getD_in (by simpa using ht) (getD_replicate_false _ _)⟩, hdf.symm, hsz.symm, fun t ht => (hA t (fun o ho hd => by
      obtain ⟨i, hi, hio⟩ := hget o ho
      have hlt : i < l.length := (List.getElem?_eq_some_iff.1 hio).1
      exact ht i o hi (by simpa using hio) (by simp [hlt]) hd)).symm⟩ h0
  have hnl : n ≤ l.toArray.size := by simpa using hnle
  rw [show n + (l.toArray.size - n) = l.toArray.size by omega] at this
  exact this

/-- THE RULE, without a block of its own. -/
theorem wp_region_B {id : Nat} {Q : Exit → Act → World → Prop} {a : Act} {w : World} (n : Nat) (J : World → Prop) (hm : P.follows .mixedOrders = true) (hB : orderOk l.toArray n = true)
    (hJ : ∀ w w', J w → Below w.heap.size w w' → J w') (h0 : J w.drew) (h' : ∀ R : Act → Prop, (∀ A, (∀ w', J w' → wpList P l.toArray Q (l.drop n) A w') → R A) → wpB P l.toArray J R (l.take n) a) : (Code.region id l.toArray true).wp P Q a w :=
  wp_region_any hm (wpAny_B n J hB hJ h0 h')

/-- THE RULE, with one operation (number k, slot s) that makes a block at whatever time. -/
theorem wp_region_one {id : Nat} {Q : Exit → Act → World → Prop} {a : Act} {w : World} (n k : Nat) (s : Tmp) (J : World → Prop) (obj : Obj) (mk : Nat → Value) (base : Nat) (hm : P.follows .mixedOrders = true) (hB : orderOk l.toArray n = true) (hF : freshOk l.toArray n k s = true)
    (hJ : ∀ w w', J w → Below w.heap.size w w' → J w') (hbase : ∀ w, J w → base ≤ w.heap.size) (h0 : J w.drew)
    (h' : ∀ R : Act → Prop, (∀ A, (∀ o, l[k]? = some o → ∀ w', J w' → (execOp A.eval o).run P w' = .ok (.value (mk w'.heap.size)) (w'.alloc obj)) → (∀ g w', base ≤ g → J w' → w'.heap[g]? = some obj → wpList P l.toArray Q (l.drop n) (A.put (some s) (mk g)) w') → R A) → wpB P l.toArray J R ((l.take n).eraseIdx k) a) : (Code.region id l.toArray true).wp P Q a w := by
  have h := h' (fun A => (∀ o, l[k]? = some o → ∀ w', J w' → (execOp A.eval o).run P w' = .ok (.value (mk w'.heap.size)) (w'.alloc obj)) ∧ ∀ g w', base ≤ g → J w' → w'.heap[g]? = some obj → wpList P l.toArray Q (l.drop n) (A.put (some s) (mk g)) w') (fun _ h1 h2 => ⟨h1, h2⟩)
  obtain ⟨hsel, hnle, hpw, hown, hget⟩ := walk_facts hB
  obtain ⟨hkn, ⟨ok, hok, hdst, hgd⟩, hlook⟩ := freshOk_spec hF
  have hsub : ((l.take n).eraseIdx k).Sublist (l.take n) := List.eraseIdx_sublist _ _
  obtain ⟨A, hRA, hsz, hdf, hA, hset⟩ := wpB_settles (P := P) (J := J) (ops := l.toArray) (by simpa using hsel) ((l.take n).eraseIdx k) (fun o ho => by simpa using List.mem_of_mem_take (hsub.mem ho)) (hpw.sublist hsub) (fun o ho => hown o (hsub.mem ho)) a h
  refine wp_region_any hm ?_
  have := wpAny_one (P := P) (J := J) (Q := Q) (A := A) (base := base) (obj := obj) (mk := mk) hB hkn hok hdst hgd hlook hJ hbase (fun w' hw' => hRA.1 ok (by simpa using hok) w' hw') (fun i o hi hne ho => hset o (by
      refine List.mem_eraseIdx_iff_getElem?.2 ⟨i, hne, ?_⟩
      rw [List.getElem?_take_of_lt hi]; simpa using ho)) (fun g w' hg hw' hb => by simpa using hRA.2 g w' hg hw' hb) n (Array.replicate l.toArray.size false) a w.drew (unl_none _ _ (by simpa using hnle))
    (getD_in (by simp; omega) (getD_replicate_false _ _))
    ⟨⟨by simp, fun j oj _ hl => (by rw [getD_replicate_false] at hl; cases hl), fun t _ ht => getD_in (by simpa using ht) (getD_replicate_false _ _)⟩, hdf.symm, hsz.symm, fun t ht => (hA t (fun o ho hd => by
      obtain ⟨i, hi, hio⟩ := hget o (hsub.mem ho)
      have hlt : i < l.length := (List.getElem?_eq_some_iff.1 hio).1
      exact ht i o hi (by simpa using hio) (by simp [hlt]) hd)).symm⟩ h0
  have hnl : n ≤ l.toArray.size := by simpa using hnle
  rw [show n + (l.toArray.size - n) = l.toArray.size by omega] at this
  exact this
end

section
variable {R : Act → Prop} {a : Act} {o : Oper} {rest : List Oper}
theorem wpB_nil (h : R a) : wpB P ops J R [] a := h
theorem wpB_val {v : Value} (hw : Region.wanted o (yielded ops a.tmps) = true) (h : ∀ w, J w → (execOp a.eval o).run P w = .ok (.value v) w)
    (hr : wpB P ops J R rest (a.put o.dst v)) : wpB P ops J R (o :: rest) a := by
  unfold wpB
  rw [if_pos hw]
  exact ⟨v, fun w hI => by rw [h w hI]; exact ⟨rfl, Below.refl _ _⟩, hr⟩
theorem wpB_move {dst : Option Tmp} {x : Operand} {ty : TypeId} {pos : String} {after : Array Edge} {gd : Option (Nat × Bool)}
    (hw : Region.wanted ⟨dst, .move x, ty, pos, after, gd⟩ (yielded ops a.tmps) = true)
    (hr : wpB P ops J R rest (a.put dst (a.eval x))) : wpB P ops J R (⟨dst, .move x, ty, pos, after, gd⟩ :: rest) a :=
  wpB_val hw (fun _ _ => rfl) hr
theorem wpB_call {v : Value} (f : FuncId) (args : Array Value) (hw : Region.wanted o (yielded ops a.tmps) = true) (h : ∀ w, (execOp a.eval o).run P w = .ok (.enter f args) w)
    (hc : ∀ w, J w → Calls P f args w (Ret v w))
    (hr : wpB P ops J R rest (a.put o.dst v)) : wpB P ops J R (o :: rest) a := by
  unfold wpB
  rw [if_pos hw]
  exact ⟨v, fun w hI => by rw [h w]; exact hc w hI, hr⟩
theorem wpB_skip (hw : Region.wanted o (yielded ops a.tmps) = false) (hr : wpB P ops J R rest (a.put o.dst undef)) : wpB P ops J R (o :: rest) a := by
  unfold wpB
  rw [hw]
  exact hr
end
end

theorem below_closed (w0 : World) : ∀ w w' : World, Below w0.heap.size w0 w → Below w.heap.size w w' → Below w0.heap.size w0 w' := fun _ _ h h' => below_step h h'
theorem below_base (w0 : World) : ∀ w : World, Below w0.heap.size w0 w → w0.heap.size ≤ w.heap.size := fun _ h => h.size
end Go.Proofs.YtmcodendnpjlaaaDoor
