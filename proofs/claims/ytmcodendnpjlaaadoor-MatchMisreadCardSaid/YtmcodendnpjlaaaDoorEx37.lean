/- Chapter 37: a rule for drawn regions, two rows of the call's own side by side, exitsOf, paired, a slice of bytes opened. -/
import Derived.Test.YtmcodendnpjlaaaDoorMixF
import Derived.Test.YtmcodendnpjlaaaDoorWt37
import Derived.Test.YtmcodendnpjlaaaDoorRow37
namespace Go.Proofs.YtmcodendnpjlaaaDoor
section
open Go.RowKit

section
variable {P : Program} {ops : Array Oper} {J : World → Prop} {Q : Exit → Act → World → Prop}

/-- What the table must be; C: the chain's numbers. -/
def mixOkG (ops : Array Oper) (C : List Nat) : Bool :=
  Region.noSelect ops && decide C.Nodup && C.all (fun c => decide (c < ops.size)) && !C.isEmpty &&
  (List.range ops.size).all fun i => match ops[i]? with
    | none => true
    | some oi =>
      (oi.after.all fun e => !Region.binds .any e || decide (e.on < i)) &&
      (C.contains i || (List.range ops.size).any fun k => Region.waitsFor .any ops k i) &&
      (List.range ops.size).all fun j => match ops[j]? with
        | none => true
        | some oj => match oj.dst with
          | none => true
          | some d =>
            if C.contains i then C.contains j || (oi.dst != some d && (!(oi.looksAt ops).contains d || Region.waitsFor .any ops i j))
            else (decide (i = j) || oi.dst != some d) && (!(oi.looksAt ops).contains d || (!C.contains j && decide (j < i) && Region.waitsFor .any ops i j) || (C.contains j && Region.waitsFor .any ops j i))

structure MixFactsG (ops : Array Oper) (C : List Nat) : Prop where
  sel : ∀ o ∈ ops.toList, ∀ cs b, o.op ≠ .select cs b
  nodup : C.Nodup
  lt : ∀ c ∈ C, c < ops.size
  ne : C ≠ []
  back : ∀ (i : Nat) (oi : Oper), ops[i]? = some oi → ∀ e ∈ oi.after, Region.binds .any e = true → e.on < i
  waiter : ∀ (i : Nat), i < ops.size → i ∉ C → ∃ k, k < ops.size ∧ Region.waitsFor .any ops k i = true
  chain : ∀ (i : Nat) (oi : Oper) (j : Nat) (oj : Oper) (d : Tmp), ops[i]? = some oi → ops[j]? = some oj → i ∈ C → j ∉ C → oj.dst = some d → oi.dst ≠ some d ∧ (d ∈ oi.looksAt ops → Region.waitsFor .any ops i j = true)
  pure : ∀ (i : Nat) (oi : Oper) (j : Nat) (oj : Oper) (d : Tmp), ops[i]? = some oi → ops[j]? = some oj → i ∉ C → oj.dst = some d → (i ≠ j → oi.dst ≠ some d) ∧ (d ∈ oi.looksAt ops → (j ∉ C ∧ j < i ∧ Region.waitsFor .any ops i j = true) ∨ (j ∈ C ∧ Region.waitsFor .any ops j i = true))

theorem mixOkG_spec {C : List Nat} (h : mixOkG ops C = true) : MixFactsG ops C := by
  unfold mixOkG at h
  simp only [Bool.and_eq_true, decide_eq_true_eq, List.all_eq_true, Bool.not_eq_true', List.isEmpty_eq_false_iff] at h
  obtain ⟨⟨⟨⟨h1, h2⟩, h4⟩, h5⟩, h6⟩ := h
  have hi6 : ∀ (i : Nat) (oi : Oper), ops[i]? = some oi → _ := fun i oi hi => by
    have := h6 i (List.mem_range.2 (Array.getElem?_eq_some_iff.1 hi).1)
    simp only [hi, Bool.and_eq_true, Bool.or_eq_true, List.all_eq_true] at this
    exact this
  have hij : ∀ (i : Nat) (oi : Oper) (j : Nat) (oj : Oper) (d : Tmp), ops[i]? = some oi → ops[j]? = some oj → oj.dst = some d → _ := fun i oi j oj d hi hj hd => by
    have := (hi6 i oi hi).2 j (List.mem_range.2 (Array.getElem?_eq_some_iff.1 hj).1)
    simp only [hj, hd] at this
    exact this
  refine ⟨fun o ho cs b => ?_, h2, h4, h5, fun i oi hi e he hbd => ?_, fun i hi hC => ?_, fun i oi j oj d hi hj hC hjC hd => ?_, fun i oi j oj d hi hj hC hd => ?_⟩
  · obtain ⟨k, hk⟩ := List.getElem?_of_mem ho
    exact Region.noSelect_spec h1 k o cs b (by simpa using hk)
  · have := (Array.all_eq_true_iff_forall_mem.1 (hi6 i oi hi).1.1) e he
    simpa [hbd] using this
  · have hoi : ops[i]? = some ops[i] := by simp [hi]
    have := (hi6 i _ hoi).1.2.resolve_left (by simpa using hC)
    rw [List.any_eq_true] at this
    obtain ⟨k, hk, hw⟩ := this
    exact ⟨k, List.mem_range.1 hk, hw⟩
  · have := hij i oi j oj d hi hj hd
    rw [if_pos (by simpa using hC)] at this
    simp only [Bool.or_eq_true, List.contains_eq_mem, decide_eq_true_eq, Bool.and_eq_true, bne_iff_ne, Bool.not_eq_true', decide_eq_false_iff_not] at this
    have h7 := this.resolve_left hjC
    exact ⟨h7.1, fun hl => h7.2.resolve_left (fun hn => hn hl)⟩
  · have := hij i oi j oj d hi hj hd
    rw [if_neg (by simpa using hC)] at this
    simp only [Bool.or_eq_true, List.contains_eq_mem, decide_eq_true_eq, Bool.and_eq_true, bne_iff_ne, Bool.not_eq_true', decide_eq_false_iff_not] at this
    refine ⟨fun hne => this.1.resolve_left hne, fun hl => ?_⟩
    rcases this.2 with h7 | h7
    · have h8 := h7.resolve_left (fun hn => hn hl)
      exact .inl ⟨h8.1.1, h8.1.2, h8.2⟩
    · exact .inr h7

/-- How far the region has come: rest: the acting operations that have not been run. -/
structure MixStG (P : Program) (ops : Array Oper) (C : List Nat) (J : World → Prop) (rest : List Nat) (V : Act) (listed : Array Bool) (a : Act) : Prop where
  sub : ∀ c ∈ rest, c ∈ C
  nd : rest.Nodup
  size : listed.size = ops.size
  dn : ∀ c ∈ C, c ∉ rest → listed.getD c true = true
  un : ∀ c ∈ rest, listed.getD c true = false
  closed : ∀ (j : Nat) (oj : Oper), ops[j]? = some oj → listed.getD j true = true → ∀ e ∈ oj.after, Region.binds .any e = true → listed.getD e.on false = true
  dfs : a.defers = V.defers
  sz : a.tmps.size = V.tmps.size
  agree : ∀ t, (∀ j oj, j ∉ C → ops[j]? = some oj → listed.getD j true = false → oj.dst ≠ some t) → a.tmps[t]? = V.tmps[t]?
  settled : ∀ i o, i ∉ C → ops[i]? = some o → listed.getD i true = false → SettledP P ops J o V

theorem SettledP.afterG {C : List Nat} (hM : MixFactsG ops C) {i : Nat} {o : Oper} (hi : i ∉ C) (ho : ops[i]? = some o) {c : Nat} {oc : Oper} (hc : c ∈ C) (hoc : ops[c]? = some oc) (hnw : ∀ t, oc.dst = some t → t ∉ o.looksAt ops) {V : Act} (h : SettledP P ops J o V) (v : Value) : SettledP P ops J o (V.put oc.dst v) := by
  have hl : ∀ t ∈ o.looksAt ops, (V.put oc.dst v).tmps[t]? = V.tmps[t]? := fun t ht => put_get_ne (fun hd => hnw t hd ht)
  have he := exec_of_agree (ops := ops) (hM.sel o (by have := Array.mem_of_getElem? ho; simpa using this)) hl
  have hwn := wanted_of_agree (ops := ops) hl
  have hput : ∀ u, V.put o.dst u = V → (V.put oc.dst v).put o.dst u = V.put oc.dst v := by
    intro u hu
    refine put_self (a := V.put oc.dst v) (fun d hd => ?_) rfl
    have h1 : (V.put oc.dst v).tmps[d]? = V.tmps[d]? := put_get_ne (fun hd' => (hM.pure i o c oc d ho hoc hi hd').1 (fun e => hi (e ▸ hc)) hd)
    have h2 : (V.put o.dst u).tmps[d]? = V.tmps[d]? := by rw [hu]
    rw [hd] at h2 ⊢
    rw [h1]
    by_cases hlt : d < V.tmps.size
    · have hlt' : d < (V.put oc.dst v).tmps.size := by rw [put_size]; exact hlt
      simp only [Act.put, Array.getElem?_setIfInBounds, if_pos hlt, if_true] at h2
      have e2 : ((V.put oc.dst v).put (some d) u).tmps[d]? = some u := by
        show ((V.put oc.dst v).tmps.setIfInBounds d u)[d]? = _
        simp [hlt']
      rw [e2, h2]
    · have hlt' : ¬ d < (V.put oc.dst v).tmps.size := by rw [put_size]; exact hlt
      have e2 : ((V.put oc.dst v).put (some d) u).tmps[d]? = none := by
        show ((V.put oc.dst v).tmps.setIfInBounds d u)[d]? = _
        simp [hlt']
      rw [e2]
      exact Array.getElem?_eq_none (Nat.le_of_not_lt hlt)
  refine ⟨fun hw => ?_, fun hw => ?_⟩
  · rw [hwn] at hw
    obtain ⟨u, h1, h2⟩ := h.1 hw
    exact ⟨u, fun w hJ => by rw [he]; exact h1 w hJ, hput u h2⟩
  · rw [hwn] at hw
    exact hput undef (h.2 hw)

theorem mixG_step {C : List Nat} (hM : MixFactsG ops C) : ∀ (m : Nat) (rest : List Nat) (V : Act) (listed : Array Bool) (a : Act) (w : World), unl ops.size listed = m → MixStG P ops C J rest V listed a → wpF P ops J Q rest.length rest V w → wpAny P .any ops Q m listed a w := by
  intro m
  induction m with
  | zero =>
    intro rest V listed a w hm hS hC
    have hall : ∀ i, i < ops.size → listed.getD i true = true := by
      intro i hi
      unfold unl at hm
      rw [List.countP_eq_zero] at hm
      have := hm i (List.mem_range.2 hi)
      simpa using this
    have hr : rest = [] := by
      cases rest with
      | nil => rfl
      | cons c r =>
        have h1 := hS.un c (List.mem_cons_self ..)
        rw [hall c (hM.lt c (hS.sub c (List.mem_cons_self ..)))] at h1
        cases h1
    subst hr
    have ha : a = V := by
      have h1 : a.tmps = V.tmps := by
        apply Array.ext_getElem?
        intro t
        refine hS.agree t (fun j oj _ hoj hun => ?_)
        rw [hall j (Array.getElem?_eq_some_iff.1 hoj).1] at hun; cases hun
      have h2 := hS.dfs
      cases a; cases V; simp_all
    subst ha
    refine ⟨?_, hC⟩
    rw [List.eq_nil_iff_forall_not_mem]
    intro i hi
    obtain ⟨hun, oi, hoi, _⟩ := mem_ready.1 hi
    rw [hall i (Array.getElem?_eq_some_iff.1 hoi).1] at hun
    cases hun
  | succ m ih =>
    intro rest V listed a w hm hS hC
    have hex : ∃ i, i < ops.size ∧ listed.getD i true = false := by
      have : 0 < unl ops.size listed := by omega
      unfold unl at this
      rw [List.countP_pos_iff] at this
      obtain ⟨i, hi, h⟩ := this
      exact ⟨i, List.mem_range.1 hi, by simpa using h⟩
    have hsmall : ∀ k i, i ≤ k → i < ops.size → listed.getD i true = false → ∃ j, j ∈ Region.ready .any ops listed := by
      intro k
      induction k with
      | zero =>
        intro i hi hlt hun
        refine ⟨i, mem_ready.2 ⟨hun, ops[i], by simp [hlt], fun e he hbd => ?_⟩⟩
        have := hM.back i ops[i] (by simp [hlt]) e he hbd
        omega
      | succ k ihk =>
        intro i hi hlt hun
        by_cases hex2 : ∃ e ∈ (ops[i]).after, Region.binds .any e = true ∧ listed.getD e.on false = false
        · obtain ⟨e, he, hbd, hf⟩ := hex2
          have hlt2 := hM.back i ops[i] (by simp [hlt]) e he hbd
          exact ihk e.on (by omega) (by omega) (getD_in (by rw [hS.size]; omega) hf)
        · refine ⟨i, mem_ready.2 ⟨hun, ops[i], by simp [hlt], fun e he hbd => ?_⟩⟩
          cases hf : listed.getD e.on false with
          | true => rfl
          | false => exact absurd ⟨e, he, hbd, hf⟩ hex2
    -- an operation beside the chain that has not been run: the chain is not at its end
    have hleft : ∀ d i, ops.size - i ≤ d → i < ops.size → listed.getD i true = false → ∃ c, c ∈ rest := by
      intro d
      induction d with
      | zero => intro i hi hlt _; omega
      | succ d ihd =>
        intro i hi hlt hun
        by_cases hiC : i ∈ C
        · by_cases h : i ∈ rest
          · exact ⟨i, h⟩
          · rw [hS.dn i hiC h] at hun; cases hun
        · obtain ⟨k, hk, hwf⟩ := hM.waiter i hlt hiC
          have hok : ops[k]? = some ops[k] := by simp [hk]
          have hik : i < k := by
            obtain ⟨o', ho', e, he, hb, hon⟩ := Region.waitsFor_spec hwf
            have := hM.back k o' ho' e he hb
            omega
          have hku : listed.getD k true = false := by
            cases hf : listed.getD k true with
            | false => rfl
            | true =>
              have := waits_listed hwf hok (hS.closed k _ hok hf)
              rw [getD_both hun] at this
              cases this
          exact ihd k (by omega) hk hku
    obtain ⟨i0, hi0, hun0⟩ := hex
    obtain ⟨j0, hj0⟩ := hsmall i0 i0 (Nat.le_refl _) hi0 hun0
    obtain ⟨c0, hc0⟩ := hleft _ i0 (Nat.le_refl _) hi0 hun0
    refine ⟨fun h => (by rw [h] at hj0; cases hj0), fun i hi => ?_⟩
    obtain ⟨hiun, oi, hoi, hall⟩ := mem_ready.1 hi
    have hilt := (Array.getElem?_eq_some_iff.1 hoi).1
    have hun' : unl ops.size (listed.setIfInBounds i true) = m := by
      have := unl_set hilt hiun
      omega
    have hJw : J w := by
      cases rest with
      | nil => cases hc0
      | cons c r => exact hC.1
    have hag : ∀ t ∈ oi.looksAt ops, a.tmps[t]? = V.tmps[t]? := by
      intro t ht
      refine hS.agree t (fun j oj hj hoj hun hd => ?_)
      have hwf : Region.waitsFor .any ops i j = true := by
        by_cases hiC : i ∈ C
        · exact (hM.chain i oi j oj t hoi hoj hiC hj hd).2 ht
        · rcases (hM.pure i oi j oj t hoi hoj hiC hd).2 ht with h | h
          · exact h.2.2
          · exact absurd h.1 hj
      have h3 := waits_listed hwf hoi hall
      rw [getD_both hun] at h3
      cases h3
    have he := exec_of_agree (ops := ops) (hM.sel oi (by
      have := Array.mem_of_getElem? hoi
      simpa using this)) hag
    have hwn := wanted_of_agree (ops := ops) hag
    have hclosed : ∀ (j : Nat) (oj : Oper), ops[j]? = some oj → (listed.setIfInBounds i true).getD j true = true → ∀ e ∈ oj.after, Region.binds .any e = true → (listed.setIfInBounds i true).getD e.on false = true := by
      intro j oj hoj hl e he' hb
      have hset : ∀ k, listed.getD k false = true → (listed.setIfInBounds i true).getD k false = true := fun k hk => by
        by_cases hki : k = i
        · subst hki
          have : k < listed.size := by rw [hS.size]; exact hilt
          simp [this]
        · rw [getD_set_ne false (Ne.symm hki)]; exact hk
      by_cases hji : j = i
      · subst hji
        have : oj = oi := Option.some.inj (hoj.symm.trans hoi)
        subst this
        exact hset _ (hall e he' hb)
      · rw [getD_set_ne true (Ne.symm hji)] at hl
        exact hset _ (hS.closed j oj hoj hl e he' hb)
    unfold wpOp
    simp only [hoi]
    by_cases hiC : i ∈ C
    · -- the chain's next operation
      have hir : i ∈ rest := by
        by_cases h : i ∈ rest
        · exact h
        · rw [hS.dn i hiC h] at hiun; cases hiun
      have hfree : freeC ops rest i = true := by
        unfold freeC
        rw [List.all_eq_true]
        intro d hd
        cases hwf : Region.waitsFor .any ops i d with
        | false => rfl
        | true =>
          have := waits_listed hwf hoi hall
          rw [getD_both (hS.un d hd)] at this
          cases this
      obtain ⟨k, hk⟩ : ∃ k, rest.length = k + 1 := ⟨rest.length - 1, by have := List.length_pos_of_mem hir; omega⟩
      rw [hk] at hC
      obtain ⟨o', ho', hgd, hstep⟩ := hC.2 i hir hfree
      have hkl : k = (rest.erase i).length := by rw [List.length_erase_of_mem hir, hk]; rfl
      rw [hkl] at hstep
      have : o' = oi := Option.some.inj (ho'.symm.trans hoi)
      subst this
      · skip
        have hw : Region.wanted o' (yielded ops a.tmps) = true := by simp [Region.wanted, hgd]
        rw [if_pos hw]
        refine .inl ?_
        have hnext : ∀ v, MixStG P ops C J (rest.erase i) (V.put o'.dst v) (listed.setIfInBounds i true) (a.put o'.dst v) := by
          intro v
          refine ⟨fun c hc => hS.sub c (List.mem_of_mem_erase hc), hS.nd.erase i, by simpa using hS.size, ?_, ?_, hclosed, by rw [put_defers', put_defers']; exact hS.dfs, by rw [put_size, put_size]; exact hS.sz, ?_, fun i' o hi' ho hun2 => ?_⟩
          · intro k hk hkr
            by_cases hkc : k = i
            · subst hkc
              have : k < listed.size := by rw [hS.size]; exact hilt
              simp [this]
            · rw [getD_set_ne true (Ne.symm hkc)]
              exact hS.dn k hk (fun h => hkr ((List.mem_erase_of_ne hkc).2 h))
          · intro k hk
            have hkc : k ≠ i := fun e => (hS.nd.mem_erase_iff.1 hk).1 e
            rw [getD_set_ne true (Ne.symm hkc)]
            exact hS.un k (List.mem_of_mem_erase hk)
          · intro t ht
            by_cases hd : o'.dst = some t
            · rw [hd]
              by_cases hlt : t < a.tmps.size
              · have hlt' : t < V.tmps.size := by rw [← hS.sz]; exact hlt
                simp [Act.put, hlt, hlt']
              · have hlt' : ¬ t < V.tmps.size := by rw [← hS.sz]; exact hlt
                simp [Act.put, hlt, hlt']
            · rw [put_get_ne hd, put_get_ne hd]
              refine hS.agree t (fun j oj hj hoj hun => ?_)
              exact ht j oj hj hoj (by rw [getD_set_ne true (fun e : i = j => hj (by rw [← e]; exact hiC))]; exact hun)
          · have hne : i ≠ i' := fun e => hi' (e ▸ hiC)
            rw [getD_set_ne true hne] at hun2
            refine (hS.settled i' o hi' ho hun2).afterG hM hi' ho hiC hoi (fun t hd hl => ?_) v
            rcases (hM.pure i' o i o' t ho hoi hi' hd).2 hl with h | h
            · exact h.1 hiC
            · have := waits_listed h.2 hoi hall
              rw [getD_both hun2] at this
              cases this
        unfold Oper.wp
        rw [he]
        generalize (execOp V.eval o').run P w = r' at hstep
        cases r' with
        | halt x w' => exact hstep.elim
        | ok nx w' =>
          cases nx <;> simp only [StepC] at hstep <;> simp only [Oper.upon]
          case value u => exact ih _ _ _ _ _ hun' (hnext u) hstep
          case skip => exact ih _ _ _ _ _ hun' (hnext undef) hstep
          case enter f args =>
            refine Calls.mono hstep (fun e w'' hh => ?_)
            obtain ⟨v, rfl, hk⟩ := hh
            exact ih _ _ _ _ _ hun' (hnext v) hk
    · -- beside the chain
      have hU' : ∀ v, V.put oi.dst v = V → MixStG P ops C J rest V (listed.setIfInBounds i true) (a.put oi.dst v) := by
        intro v hv
        refine ⟨hS.sub, hS.nd, by simpa using hS.size, ?_, ?_, hclosed, by rw [put_defers']; exact hS.dfs, by rw [put_size]; exact hS.sz, ?_, fun i' o hi' ho hun2 => hS.settled i' o hi' ho (by
          by_cases e : i = i'
          · subst e
            have : i < listed.size := by rw [hS.size]; exact hilt
            simp [this] at hun2
          · rw [getD_set_ne true e] at hun2; exact hun2)⟩
        · intro k hk hkr
          have : k ≠ i := fun e => hiC (by rw [← e]; exact hk)
          rw [getD_set_ne true (Ne.symm this)]
          exact hS.dn k hk hkr
        · intro k hk
          have : k ≠ i := fun e => hiC (by rw [← e]; exact hS.sub k hk)
          rw [getD_set_ne true (Ne.symm this)]
          exact hS.un k hk
        · intro t ht
          by_cases hd : oi.dst = some t
          · rw [← hv, hd]
            by_cases hlt : t < a.tmps.size
            · have hlt' : t < V.tmps.size := by rw [← hS.sz]; exact hlt
              simp [Act.put, hlt, hlt']
            · have hlt' : ¬ t < V.tmps.size := by rw [← hS.sz]; exact hlt
              simp [Act.put, hlt, hlt']
          · rw [put_get_ne hd]
            refine hS.agree t (fun j oj hj hoj hun hdj => ?_)
            by_cases hji : j = i
            · subst hji
              have : oj = oi := Option.some.inj (hoj.symm.trans hoi)
              subst this
              exact hd hdj
            · exact ht j oj hj hoj (by rw [getD_set_ne true (Ne.symm hji)]; exact hun) hdj
      have hSt := hS.settled i oi hiC hoi hiun
      by_cases hw : Region.wanted oi (yielded ops V.tmps) = true
      · obtain ⟨v, hy, hv⟩ := hSt.1 hw
        rw [hwn, if_pos hw]
        refine .inl ?_
        unfold Oper.wp
        rw [he, hy w hJw]
        exact ih _ _ _ _ _ hun' (hU' v hv) hC
      · have hw' : Region.wanted oi (yielded ops V.tmps) = false := by simpa using hw
        rw [hwn, if_neg hw]
        exact ih _ _ _ _ _ hun' (hU' _ (hSt.2 hw')) hC

/-- THE RULE. -/
theorem wp_region_mixG {l : List Oper} {id : Nat} {a : Act} {w : World} (C : List Nat) (J : World → Prop) (hm : P.follows .mixedOrders = true) (hB : mixOkG l.toArray C = true)
    (h' : ∀ R : Act → Prop, (∀ A, wpF P l.toArray J Q C.length C A w.drew → R A) → wpM P l.toArray J R (beside C l 0) a) : (Code.region id l.toArray true).wp P Q a w := by
  have h := h' (fun A => wpF P l.toArray J Q C.length C A w.drew) (fun _ h => h)
  have hM := mixOkG_spec hB
  have hget : ∀ o ∈ beside C l 0, ∃ i, i ∉ C ∧ l[i]? = some o := fun o ho => by
    obtain ⟨i, h1, h2⟩ := beside_mem.1 ho
    exact ⟨i, by simpa using h2, h1⟩
  obtain ⟨A, hRA, hsz, hdf, hA, hset⟩ := wpM_settles (P := P) (J := J) (ops := l.toArray) hM.sel (beside C l 0) (fun o ho => by
      obtain ⟨i, _, h1⟩ := hget o ho
      have := List.mem_of_getElem? h1
      simpa using this)
    (by
      refine (beside_pair (C := C) (S := fun i oi j oj => ∀ d, oj.dst = some d → oi.dst ≠ some d ∧ d ∉ oi.looksAt l.toArray) (fun i j oi oj hi hj hij h1 h2 d hd => ?_)).imp (fun ⟨_, _, h⟩ => h)
      have := hM.pure (0 + i) oi (0 + j) oj d (by simpa using hi) (by simpa using hj) h1 hd
      exact ⟨this.1 (by omega), fun hl => by
        rcases this.2 hl with h3 | h3
        · have := h3.2.1; omega
        · exact h2 h3.1⟩)
    (fun o ho d hd hl => by
      obtain ⟨i, hiC, hio⟩ := hget o ho
      rcases (hM.pure i o i o d (by simpa using hio) (by simpa using hio) hiC hd).2 hl with h3 | h3
      · have := h3.2.1; omega
      · exact hiC h3.1) a h
  refine wp_region_any hm ?_
  have hun : unl l.toArray.size (Array.replicate l.toArray.size false) = l.toArray.size := unl_none _ _ (Nat.le_refl _)
  refine mixG_step hM l.toArray.size C A (Array.replicate l.toArray.size false) a w.drew hun ⟨fun c hc => hc, hM.nodup, by simp, fun c hc hn => absurd hc hn, fun c hc => getD_in (by simpa using hM.lt c hc) (getD_replicate_false _ _), fun j oj _ hl => ?_, hdf.symm, hsz.symm, fun t ht => (hA t (fun o ho hd => ?_)).symm, fun i o hi ho _ => hset o (beside_mem.2 ⟨i, by simpa using ho, by simpa using hi⟩)⟩ hRA
  · rename_i hoj
    have : j < l.toArray.size := (Array.getElem?_eq_some_iff.1 hoj).1
    have h2 : j < l.length := by simpa using this
    simp [h2] at hl
  · obtain ⟨i, hi, hio⟩ := hget o ho
    have hlt : i < l.length := (List.getElem?_eq_some_iff.1 hio).1
    exact ht i o hi (by simpa using hio) (by simp [hlt]) hd
end

/-- THE RULE, the chain's numbers by a mask too. -/
theorem wp_region_maskG {P : Program} {Q : Exit → Act → World → Prop} {l : List Oper} {id : Nat} {a : Act} {w : World} (C : List Nat) (mask : List Bool) (J : World → Prop) (hm : P.follows .mixedOrders = true) (hB : (mixOkG l.toArray C && mask == maskOf C l.length 0) = true)
    (h' : ∀ R : Act → Prop, (∀ A, wpF P l.toArray J Q C.length C A w.drew → R A) → wpM P l.toArray J R (marked mask l) a) : (Code.region id l.toArray true).wp P Q a w := by
  simp only [Bool.and_eq_true, beq_iff_eq] at hB
  refine wp_region_mixG C J hm hB.1 (fun R hR => ?_)
  have := h' R hR
  rw [hB.2, marked_eq] at this
  exact this
end
section
open Go.RowKit

theorem ownsRow_grown {W W' : World} {row : Option Nat} {base : Nat} {e : TypeId} {size : Nat} {v : Value} {n : Nat} {xs : List Value} (h : W.ownsRow base e size v n xs) (hg : W.grownBy W' row) (hne : ∀ b, v.ownBlock = some b → row ≠ some b) : W'.ownsRow base e size v n xs := by
  refine ⟨h.1, ?_⟩
  rcases h.2 with h1 | ⟨g1, cap1, cur1, hv1, hg1, hk1, hrest⟩
  · exact .inl h1
  · have hlt1 : g1 < W.heap.size := (Array.getElem?_eq_some_iff.1 hk1).1
    have hb : v.ownBlock = some g1 := by rw [hv1]; rfl
    exact .inr ⟨g1, cap1, cur1, hv1, hg1, (hg.block g1 hlt1 (fun e => hne g1 hb e.symm)).trans hk1, hrest⟩
theorem ownsRow_block {W : World} {base : Nat} {e : TypeId} {size : Nat} {v : Value} {n : Nat} {xs : List Value} (h : W.ownsRow base e size v n xs) {b : Nat} (hb : v.ownBlock = some b) : base ≤ b ∧ b < W.heap.size := by
  rcases h.2 with ⟨hv, _⟩ | ⟨g1, cap1, cur1, hv1, hg1, hk1, _⟩
  · rw [hv] at hb; cases hb
  · rw [hv1] at hb
    obtain rfl : g1 = b := by injection hb
    exact ⟨hg1, (Array.getElem?_eq_some_iff.1 hk1).1⟩
/-- What lies in the first cells of a block. -/
def LitAt (w : World) (g : Nat) (cs : List Value) : Prop := ∀ j u, cs[j]? = some u → w.cell? ⟨g, j, none⟩ = some u
theorem LitAt.new (w : World) (t : TypeId) (cs : List Value) : LitAt (w.alloc (.cells cs.toArray t)) w.heap.size cs := fun j u hj => ((Blk.new w t cs.toArray).cell j).trans (by simpa using hj)
theorem LitAt.later {w w' : World} {g : Nat} {cs : List Value} (h : LitAt w g cs) (hb : Below w.heap.size w w') : LitAt w' g cs := fun j u hj => cell_kept hb (h j u hj)
theorem LitAt.grown {w w' : World} {g : Nat} {cs : List Value} {row : Option Nat} (h : LitAt w g cs) (hg : w.grownBy w' row) (hr : row ≠ some g) : LitAt w' g cs := fun j u hj => by
  have hc := h j u hj
  have hlt := cell_lt hc
  exact (World.cell?_of_block (a := ⟨g, j, none⟩) (hg.block g hlt (fun e => hr e.symm))).trans hc

/-- The state: out, of, and what is left. -/
structure XR (w wr : World) (vo vf : Value) (oL : Option Addr) (out : List Ps) (of left : List Int) : Prop where
  below : Below w.heap.size w wr
  ro : wr.ownsRow w.heap.size 35 2 vo out.length (flatPs out)
  rf : wr.ownsRow w.heap.size 3 1 vf of.length (of.map (Value.int .i64 ·))
  dis : ∀ b, vo.ownBlock = some b → vf.ownBlock ≠ some b
  left : IntsS (vo.ownBlock.toList ++ vf.ownBlock.toList) wr oL left
section
variable {w wr w' : World} {vo vf : Value} {oL : Option Addr} {out : List Ps} {of left : List Int}
theorem IntsS.later {S : List Nat} {w w' : World} {o : Option Addr} {l : List Int} (h : IntsS S w o l) (hb : Below w.heap.size w w') : IntsS S w' o l := h.agr (Agr.of_below (S := []) hb) (fun _ hb => by cases hb)
theorem XR.later (h : XR w wr vo vf oL out of left) (hb : Below wr.heap.size wr w') : XR w w' vo vf oL out of left :=
  ⟨below_step h.below hb, ownsRow_later h.ro hb, ownsRow_later h.rf hb, h.dis, h.left.later hb⟩
theorem below_grown {B : Nat} {a w w' : World} {row : Option Nat} (h : Below B a w) (hg : w.grownBy w' row) (hr : ∀ b, row = some b → B ≤ b) (hB : B ≤ w.heap.size) : Below B a w' :=
  ⟨hg.os.trans h.os, hg.tape.trans h.tape, hg.output.trans h.output, Nat.le_trans h.size hg.size, fun b hb => (hg.block b (Nat.lt_of_lt_of_le hb hB) (fun e => by have := hr b e.symm; omega)).trans (h.block b hb)⟩
theorem elemInt : ElemI Tryd.prog 36 3 1 8 := ElemI.of Tryd.underlying36 (by kernel_rfl) (by decide)
theorem IntsS.grow {S S' : List Nat} {w w' : World} {row : Option Nat} {o : Option Addr} {l : List Int} (h : IntsS S w o l) (hg : w.grownBy w' row) (hr : ∀ b, row = some b → b ∈ S) (hS : ∀ b, b ∈ S' → b ∈ S ∨ b = w.heap.size) : IntsS S' w' o l := fun i hi => by
  obtain ⟨b, off, h1, h2, h3⟩ := h i hi
  have hlt := cell_lt h3
  refine ⟨b, off, h1, fun hb => ?_, (World.cell?_of_block (a := ⟨b, off + i, none⟩) (hg.block b hlt (fun e => h2 (hr b e.symm)))).trans h3⟩
  rcases hS b hb with h4 | h4
  · exact h2 h4
  · simp only at hlt; omega
/-- Append a pass to out. -/
theorem XR.pushO (h : XR w wr vo vf oL out of left) {p : Ps} {g : Nat} (hl : LitAt wr g (psC p)) (hn : out.length + 1 ≤ 1000000000) :
    ∃ vo' w', (Builtin.append_ #[22, 22] 22 #[vo, .slice (some ⟨g, 0, none⟩) 1 1]).run Tryd.prog wr = .ok vo' w' ∧ XR w w' vo' vf oL (out ++ [p]) of left ∧ wr.grownBy w' vo.ownBlock := by
  obtain ⟨i, z, hi, hz, h2, h3, h4⟩ := elemPs.info
  obtain ⟨v', w', hr, hown, hgrow, _, hat⟩ := run_append_own_at (P := Tryd.prog) wr w.heap.size 22 22 35 i z 2 24 elemPs.under hi hz h2 h3 h4 elemPs.pos vo out.length (flatPs out) h.ro ⟨g, 0, none⟩ 1 1 (psC p) rfl (by
    intro j u hj
    rw [Addr.add_lit, Nat.zero_add]
    exact hl j u hj) (flatPs_one p) (by simp only [maxLen]; omega) (by omega) h.below.size
  have hs := h.below.size
  refine ⟨v', w', hr, ⟨below_grown h.below hgrow (fun b hb => (ownsRow_block h.ro hb).1) hs, ?_, ownsRow_grown h.rf hgrow (fun b hb e => h.dis b e hb), fun b hb hf => ?_, h.left.grow hgrow (fun b hb => by simp [hb]) (fun b hb => ?_)⟩, hgrow⟩
  · rw [List.length_append, flatPs_snoc]; exact hown
  · have hlt := (ownsRow_block h.rf hf).2
    rcases hat with e | e
    · exact h.dis b (e ▸ hb) hf
    · rw [e] at hb; injection hb with hb; omega
  · rcases List.mem_append.1 hb with hb | hb
    · rcases hat with e | e
      · rw [e] at hb; exact .inl (List.mem_append_left _ hb)
      · rw [e] at hb; right; simpa using hb
    · exact .inl (List.mem_append_right _ hb)
/-- Append a number to of. -/
theorem XR.pushF (h : XR w wr vo vf oL out of left) {x : Int} {g : Nat} (hl : LitAt wr g [.int .i64 x]) (hn : of.length + 1 ≤ 1000000000) :
    ∃ vf' w', (Builtin.append_ #[36, 36] 36 #[vf, .slice (some ⟨g, 0, none⟩) 1 1]).run Tryd.prog wr = .ok vf' w' ∧ XR w w' vo vf' oL out (of ++ [x]) left ∧ wr.grownBy w' vf.ownBlock := by
  obtain ⟨i, z, hi, hz, h2, h3, h4⟩ := elemInt.info
  obtain ⟨v', w', hr, hown, hgrow, _, hat⟩ := run_append_own_at (P := Tryd.prog) wr w.heap.size 36 36 3 i z 1 8 elemInt.under hi hz h2 h3 h4 elemInt.pos vf of.length (of.map (Value.int .i64 ·)) h.rf ⟨g, 0, none⟩ 1 1 [.int .i64 x] rfl (by
    intro j u hj
    rw [Addr.add_lit, Nat.zero_add]
    exact hl j u hj) (oneI x) (by simp only [maxLen]; omega) (by omega) h.below.size
  have hs := h.below.size
  refine ⟨v', w', hr, ⟨below_grown h.below hgrow (fun b hb => (ownsRow_block h.rf hb).1) hs, ownsRow_grown h.ro hgrow (fun b hb e => h.dis b hb e), ?_, fun b hb hf => ?_, h.left.grow hgrow (fun b hb => by simp [hb]) (fun b hb => ?_)⟩, hgrow⟩
  · rw [List.length_append, List.map_append]; exact hown
  · have hlt := (ownsRow_block h.ro hb).2
    rcases hat with e | e
    · exact h.dis b hb (e ▸ hf)
    · rw [e] at hf; injection hf with hf; omega
  · rcases List.mem_append.1 hb with hb | hb
    · exact .inl (List.mem_append_left _ hb)
    · rcases hat with e | e
      · rw [e] at hb; exact .inl (List.mem_append_right _ hb)
      · rw [e] at hb; right; simpa using hb
/-- Another slice is left, in new memory. -/
theorem XR.relay (h : XR w wr vo vf oL out of left) (hb : Below wr.heap.size wr w') {o' : Option Addr} {l' : List Int} (hi : Ints w' o' l') (hnew : ∀ a, o' = some a → wr.heap.size ≤ a.block) : XR w w' vo vf o' out of l' := by
  have h1 := h.later hb
  refine ⟨h1.below, h1.ro, h1.rf, h1.dis, fun i hlt => ?_⟩
  obtain ⟨b, off, ho, hc⟩ := hi i hlt
  have hge := hnew _ ho
  refine ⟨b, off, ho, fun hm => ?_, hc⟩
  simp only at hge
  rcases List.mem_append.1 hm with hm | hm
  · have := (ownsRow_block h.ro (b := b) (by simpa using hm)).2; omega
  · have := (ownsRow_block h.rf (b := b) (by simpa using hm)).2; omega
theorem XR.own_lt (h : XR w wr vo vf oL out of left) : vo.ownBlock ≠ some wr.heap.size ∧ vf.ownBlock ≠ some wr.heap.size :=
  ⟨fun e => by have := (ownsRow_block h.ro e).2; omega, fun e => by have := (ownsRow_block h.rf e).2; omega⟩
end
end
section
open Go.RowKit
attribute [local go_sem] Oper.semAt_some

/-- The cells of a slice of bytes. -/
def U8s (w : World) (o : Option Addr) (l : List Nat) : Prop := ∀ i, i < l.length → ∃ b off, o = some ⟨b, off, none⟩ ∧ w.cell? ⟨b, off + i, none⟩ = some (.int .u8 (l.getD i 0 : Nat)) ∧ l.getD i 0 < 256
theorem U8s.later {w w' : World} {o : Option Addr} {l : List Nat} (h : U8s w o l) (hb : Below w.heap.size w w') : U8s w' o l := fun i hi => by
  obtain ⟨b, off, h1, h2, h3⟩ := h i hi
  exact ⟨b, off, h1, cell_kept hb h2, h3⟩
theorem zeroInt : ZeroI Tryd.prog 36 3 (.int .i64 0) 8 := ZeroI.of Tryd.underlying36 (by kernel_rfl)
/-- The numbers so far. -/
def initL (n k : Nat) : List Int := (List.range k).map (fun i : Nat => (i : Int)) ++ List.replicate (n - k) 0
theorem initL_zero (n : Nat) : initL n 0 = List.replicate n 0 := by simp [initL]
theorem initL_len {n k : Nat} (h : k ≤ n) : (initL n k).length = n := by simp [initL]; omega
theorem initL_set {n k : Nat} (h : k < n) : (initL n k).set k (k : Int) = initL n (k + 1) := by
  unfold initL
  rw [List.set_append_right _ _ (by simp)]
  simp only [List.length_map, List.length_range, Nat.sub_self]
  rw [show n - k = (n - (k + 1)) + 1 by omega, List.replicate_succ, List.set_cons_zero, List.range_succ, List.map_append, List.append_assoc]
  rfl
theorem initL_all (n : Nat) : initL n n = (List.range n).map (fun i : Nat => (i : Int)) := by simp [initL]
/-- The exits, of being what they belong to. -/
def outL (E : List Ps) (M : Int) (of : List Nat) : List Ps := (List.range of.length).map (fun i => ⟨(E.getD (of.getD i 0) Ps.zero).s, M + 1 + (i : Int)⟩)
theorem outL_len (E : List Ps) (M : Int) (of : List Nat) : (outL E M of).length = of.length := by simp [outL]
theorem outL_snoc (E : List Ps) (M : Int) (of : List Nat) (x : Nat) : outL E M (of ++ [x]) = outL E M of ++ [⟨(E.getD x Ps.zero).s, M + (of.length : Int) + 1⟩] := by
  unfold outL
  rw [List.length_append, List.length_singleton, List.range_succ, List.map_append]
  congr 1
  · apply List.map_congr_left
    intro i hi
    have := List.mem_range.1 hi
    simp only [List.getD_eq_getElem?_getD, List.getElem?_append_left this]
  · simp [List.getD_eq_getElem?_getD]
    omega
def toN (l : List Nat) : List Int := l.map (fun i : Nat => (i : Int))
theorem toN_len (l : List Nat) : (toN l).length = l.length := by simp [toN]
theorem toN_get {l : List Nat} {i : Nat} (h : i < l.length) : (toN l).getD i 0 = ((l.getD i 0 : Nat) : Int) := by simp [toN, List.getD_eq_getElem?_getD, h]
theorem toN_snoc (l : List Nat) (x : Nat) : toN (l ++ [x]) = toN l ++ [(x : Int)] := by simp [toN]

theorem maxI {E : List Ps} {k : Nat} {M pm : Int} (hj : ∀ j, j < k → (E.getD j Ps.zero).mn ≤ M) (hM : 0 ≤ M ∧ M ≤ 52560000) (hp : (E.getD k Ps.zero).mn = pm) (hb : 0 ≤ pm ∧ pm ≤ 52560000) :
    (M < pm ∧ 0 ≤ pm ∧ pm ≤ 52560000 ∧ ∀ j, j < k + 1 → (E.getD j Ps.zero).mn ≤ pm) ∨ (M = pm ∧ 0 ≤ M ∧ M ≤ 52560000 ∧ ∀ j, j < k + 1 → (E.getD j Ps.zero).mn ≤ M) ∨ (pm < M ∧ 0 ≤ M ∧ M ≤ 52560000 ∧ ∀ j, j < k + 1 → (E.getD j Ps.zero).mn ≤ M) := by
  have hn : ∀ x, M ≤ x → pm ≤ x → ∀ j, j < k + 1 → (E.getD j Ps.zero).mn ≤ x := fun x h1 h2 j hjk => by
    by_cases e : j = k
    · subst e; rw [hp]; exact h2
    · exact Int.le_trans (hj j (by omega)) h1
  rcases Int.lt_trichotomy M pm with h | h | h
  · exact .inl ⟨h, hb.1, hb.2, hn pm (by omega) (by omega)⟩
  · exact .inr (.inl ⟨h, hM.1, hM.2, hn M (by omega) (by omega)⟩)
  · exact .inr (.inr ⟨h, hM.1, hM.2, hn M (by omega) (by omega)⟩)
theorem XR.first {E : List Ps} {M : Int} {w wr : World} {LB : Nat} (hb : Below w.heap.size w wr) (hl : Blk wr LB 3 (intsC (initL E.length E.length))) : XR w wr (.slice none 0 0) (.slice none 0 0) (some ⟨LB, 0, none⟩) (outL E M []) (toN []) (toN (List.range E.length)) :=
  ⟨hb, World.ownsRow_nil .., World.ownsRow_nil .., fun b hb => (by cases hb), IntsS.of (by rw [initL_all] at hl; exact hl.ints) (fun b hb => (by cases hb))⟩
theorem ownsRow_shape {W : World} {base : Nat} {e : TypeId} {size : Nat} {v : Value} {n : Nat} {xs : List Value} (h : W.ownsRow base e size v n xs) : ∃ o c, v = .slice o n c := by
  rcases h.2 with ⟨hv, hn⟩ | ⟨g1, cap1, cur1, hv1, _⟩
  · subst hn; exact ⟨none, 0, hv⟩
  · exact ⟨_, _, hv1⟩
theorem XR.done {w wr : World} {vo vf : Value} {oL : Option Addr} {out : List Ps} {of : List Int} (h : XR w wr vo vf oL out of []) : XR w wr vo vf none out of [] := ⟨h.below, h.ro, h.rf, h.dis, fun i hi => by simp at hi⟩
def lenV : Value → Nat
  | .slice _ n _ => n
  | _ => 0
structure RemI (x n j m : Nat) : Prop where
  y1 : (0 : Int) ≤ (j : Int)
  y2 : (j : Int) < (m : Int)
  ne : ((n : Int) == 0) = false
  ne2 : ¬ (n : Int) = 0
  rem : Int.tmod (x : Int) (n : Int) = ((x % n : Nat) : Int)
  lt : x % n < n
  rem2 : (wrap64 (x : Int)).tmod (n : Int) = ((x % n : Nat) : Int)
theorem remI {n x j m k : Nat} {of left : List Nat} (hn : 0 < n) (hx : x < 256) (_ : k ≤ 8) (_ : (of ++ left).Perm (List.range k)) (hj : j < m) : RemI x n j m :=
  ⟨by omega, by omega, by rw [beq_eq_false_iff_ne]; omega, by omega, rfl, Nat.mod_lt _ hn, by rw [show wrap64 (x : Int) = (x : Int) by unfold wrap64; omega]; rfl⟩
structure StepI (n M o k m x : Int) (xn en : Nat) : Prop where
  xlt : xn < en
  w1 : IntKind.i64.wrap (M + o + 1) = M + o + 1
  w2 : wrap64 (M + o + 1) = M + o + 1
  y1 : 0 ≤ k
  y2 : k < m
  y3 : 0 ≤ x
  y4 : x < n
  w3 : IntKind.i64.wrap (k + 1) = k + 1
  w4 : wrap64 (k + 1) = k + 1
  y5 : 0 ≤ k + 1
  y6 : k + 1 ≤ m
  tn : (k + 1).toNat = k.toNat + 1
theorem stepI {n k : Nat} {M : Int} {of left : List Nat} (hp : (of ++ left).Perm (List.range n)) (hk : k < left.length) (h8 : n ≤ 8) (hM : 0 ≤ M ∧ M ≤ 52560000) : StepI (n : Int) M (of.length : Int) (k : Int) (left.length : Int) ((left.getD k 0 : Nat) : Int) (left.getD k 0) n := by
  have hl := hp.length_eq
  rw [List.length_append, List.length_range] at hl
  have hm : left.getD k 0 < n := by
    have : left.getD k 0 ∈ of ++ left := List.mem_append_right _ (by rw [List.getD_eq_getElem?_getD, List.getElem?_eq_getElem hk]; exact List.getElem_mem hk)
    exact List.mem_range.1 (hp.mem_iff.1 this)
  exact ⟨hm, IntWalk.i64_in _ (by omega), by unfold wrap64; omega, by omega, by omega, by omega, by omega, IntWalk.i64_in _ (by omega), by unfold wrap64; omega, by omega, by omega, by omega⟩
theorem XR.leftAt {w wr : World} {vo vf : Value} {bL fL : Nat} {out : List Ps} {of : List Int} {left : List Nat} {k x : Nat} (h : XR w wr vo vf (some ⟨bL, fL, none⟩) out of (toN left)) (hk : k < left.length) (hx : left.getD k 0 = x) : wr.cell? ⟨bL, fL + k, none⟩ = some (.int .i64 (x : Int)) := by
  obtain ⟨b, off, ho, _, hc⟩ := h.left k (by rw [toN_len]; exact hk)
  injection ho with ho
  injection ho with ho1 ho2
  subst ho1 ho2
  rw [toN_get hk, hx] at hc
  exact hc
theorem twoAddr (bL fL cL k : Nat) : ∃ ad : Addr, (if cL = k + 1 then some (⟨bL, fL, none⟩ : Addr) else some ⟨bL, fL + (k + 1), none⟩) = some ad := by
  by_cases h : cL = k + 1
  · exact ⟨⟨bL, fL, none⟩, if_pos h⟩
  · exact ⟨⟨bL, fL + (k + 1), none⟩, if_neg h⟩
theorem Row.pushS {P : Program} {w2 wr : World} {tt ty e : TypeId} {size bytes : Nat} {v : Value} {n k c : Nat} {xs news : List Value} (hI : ElemI P tt e size bytes) (hG : Row w2 wr e size v n xs) (hn : n + k ≤ 1000000000) (hb : bytes ≤ 100000) (hlen : news.length = k * size) (h1 : ∀ u ∈ news, u.oneCell' = true) {ad : Addr} (hcs : ∀ j u, news[j]? = some u → wr.cell? (ad.add j) = some u) :
    ∃ v' w', (Builtin.append_ #[tt, tt] ty #[v, .slice (some ad) k c]).run P wr = .ok v' w' ∧ Row w2 w' e size v' (n + k) (xs ++ news) := by
  obtain ⟨i, z, hi, hz, h2, h3, h4⟩ := hI.info
  obtain ⟨v', w', hr, hown, hgrow, _⟩ := run_append_own_at (P := P) wr w2.heap.size tt ty e i z size bytes hI.under hi hz h2 h3 h4 hI.pos v n xs hG.own ad k c news hlen hcs h1 (by simp only [maxLen]; omega) (by have := Nat.mul_le_mul hn hb; omega) hG.below.size
  exact ⟨v', w', hr, hG.app hown hgrow⟩
theorem Row.newBlock {w2 wr : World} {e : TypeId} {size : Nat} {o : Option Addr} {n c m : Nat} {xs : List Value} (h : Row w2 wr e size (.slice o n c) m xs) : ∀ a, o = some a → w2.heap.size ≤ a.block := fun a ha => by
  rcases h.own.2 with ⟨hv, _⟩ | ⟨g1, cap1, cur1, hv1, hg1, _⟩
  · injection hv with hv; rw [hv] at ha; cases ha
  · injection hv1 with hv1; rw [hv1] at ha; injection ha with ha; subst ha; exact hg1
def intsV (l : List Nat) : List Value := (toN l).map (Value.int .i64 ·)
theorem intsV_one (l : List Nat) : ∀ u ∈ intsV l, u.oneCell' = true := fun u hu => by
  obtain ⟨x, _, rfl⟩ := List.mem_map.1 hu; rfl
theorem intsV_len (l : List Nat) : (intsV l).length = l.length * 1 := by simp [intsV, toN]
theorem intsV_get {l : List Nat} {j : Nat} {u : Value} (h : (intsV l)[j]? = some u) : j < l.length ∧ u = .int .i64 ((l.getD j 0 : Nat) : Int) := by
  have hj : j < (intsV l).length := (List.getElem?_eq_some_iff.1 h).1
  have hj2 : j < l.length := by simpa [intsV, toN] using hj
  refine ⟨hj2, ?_⟩
  simp [intsV, toN, hj2] at h
  rw [← h]
  simp [List.getD_eq_getElem?_getD, hj2]
/-- The cells ahead of k, and those behind it. -/
theorem cells_take {wr : World} {bL fL k : Nat} {left : List Nat} (h : ∀ j, j < left.length → wr.cell? ⟨bL, fL + j, none⟩ = some (.int .i64 ((left.getD j 0 : Nat) : Int))) : ∀ j u, (intsV (left.take k))[j]? = some u → wr.cell? ((⟨bL, fL, none⟩ : Addr).add j) = some u := fun j u hj => by
  obtain ⟨h1, rfl⟩ := intsV_get hj
  rw [List.length_take] at h1
  rw [Addr.add_lit, h j (by omega)]
  congr 3
  simp only [List.getD_eq_getElem?_getD, List.getElem?_take]
  rw [if_pos (by omega)]
theorem cells_drop {wr : World} {bL fL k cL : Nat} {ad : Addr} {left : List Nat} (hc : left.length ≤ cL) (hA : (if cL = k + 1 then some (⟨bL, fL, none⟩ : Addr) else some ⟨bL, fL + (k + 1), none⟩) = some ad) (h : ∀ j, j < left.length → wr.cell? ⟨bL, fL + j, none⟩ = some (.int .i64 ((left.getD j 0 : Nat) : Int))) : ∀ j u, (intsV (left.drop (k + 1)))[j]? = some u → wr.cell? (ad.add j) = some u := fun j u hj => by
  obtain ⟨h1, rfl⟩ := intsV_get hj
  rw [List.length_drop] at h1
  rw [if_neg (by omega)] at hA
  injection hA with hA
  subst hA
  rw [Addr.add_lit, Nat.add_assoc, h (k + 1 + j) (by omega)]
  congr 3
  simp [List.getD_eq_getElem?_getD]
def restL (left : List Nat) (k : Nat) : List Nat := left.take k ++ left.drop (k + 1)
theorem restL_len {left : List Nat} {k : Nat} (hk : k < left.length) : (restL left k).length = 0 + k + (left.length - (k + 1)) ∧ (restL left k).length < left.length := by simp [restL]; omega
theorem restL_perm {of left R : List Nat} {k x : Nat} (hk : k < left.length) (hx : left.getD k 0 = x) (hp : (of ++ left).Perm R) : ((of ++ [x]) ++ restL left k).Perm R := by
  refine List.Perm.trans ?_ hp
  have e : left = left.take k ++ x :: left.drop (k + 1) := by
    rw [← hx, List.getD_eq_getElem?_getD, List.getElem?_eq_getElem hk]
    simp
  rw [List.append_assoc]
  refine List.Perm.append_left _ ?_
  unfold restL
  conv => rhs; rw [e]
  exact (List.perm_middle (a := x) (l₁ := left.take k) (l₂ := left.drop (k + 1))).symm
theorem Row.intsRest {w2 wr : World} {o : Option Addr} {left : List Nat} {k n c : Nat} (h : Row w2 wr 3 1 (.slice o n c) n (([] ++ intsV (left.take k)) ++ intsV (left.drop (k + 1)))) (_hn : n = (restL left k).length) : Ints wr o (toN (restL left k)) := by
  have e : (([] ++ intsV (left.take k)) ++ intsV (left.drop (k + 1))) = (toN (restL left k)).map (Value.int .i64 ·) := by simp [intsV, restL, toN]
  rw [e] at h
  exact Row.ints h rfl
theorem XR.cells {w wr : World} {vo vf : Value} {bL fL : Nat} {out : List Ps} {of : List Int} {left : List Nat} (h : XR w wr vo vf (some ⟨bL, fL, none⟩) out of (toN left)) : ∀ j, j < left.length → wr.cell? ⟨bL, fL + j, none⟩ = some (.int .i64 ((left.getD j 0 : Nat) : Int)) := fun _j hj => XR.leftAt h hj rfl
structure RestF (left : List Nat) (k : Nat) (M : Int) (o : Nat) : Prop where
  n1 : 0 + k ≤ 1000000000
  n2 : 0 + k + (left.length - (k + 1)) ≤ 1000000000
  l1 : (intsV (left.take k)).length = k * 1
  l2 : (intsV (left.drop (k + 1))).length = (left.length - (k + 1)) * 1
theorem restF {n k : Nat} {M : Int} {of left : List Nat} (hp : (of ++ left).Perm (List.range n)) (hk : k < left.length) (h8 : n ≤ 8) : RestF left k M of.length := by
  have hl := hp.length_eq
  rw [List.length_append, List.length_range] at hl
  exact ⟨by omega, by omega, by rw [intsV_len, List.length_take]; omega, by rw [intsV_len, List.length_drop]⟩
theorem stepN {n : Nat} {E : List Ps} {M : Int} {of left : List Nat} (hp : (of ++ left).Perm (List.range n)) (h8 : n ≤ 8) : (outL E M of).length + 1 ≤ 1000000000 ∧ (toN of).length + 1 ≤ 1000000000 := by
  have hl := hp.length_eq
  rw [List.length_append, List.length_range] at hl
  rw [outL_len, toN_len]
  omega
structure InitI (E : List Ps) (k : Nat) : Prop where
  y1 : (0 : Int) ≤ (k : Int)
  y2 : (k : Int) < (E.length : Int)
  next : k + 1 ≤ E.length
structure XEOut (E : List Ps) (w : World) (e : Ending) (w' : World) : Prop where
  ex : ∃ (of : List Nat) (M : Int) (o1 o2 : Option Addr) (c1 c2 : Nat), e = .returned (.tuple #[.slice o1 E.length c1, .slice o2 E.length c2]) ∧ XR w w' (.slice o1 E.length c1) (.slice o2 E.length c2) none (outL E M of) (toN of) [] ∧ of.Perm (List.range E.length) ∧ (∀ i, i < E.length → (E.getD i Ps.zero).mn ≤ M) ∧ 0 ≤ M ∧ M ≤ 52560000

set_option maxRecDepth 100000 in
set_option maxHeartbeats 16000000 in
theorem exitsOf_any (oe oo : Option Addr) (ce co : Nat) (E : List Ps) (ord : List Nat) (w : World) (he : Pss w oe E) (ho : U8s w oo ord) (h8 : E.length ≤ 8) (hm : ∀ p ∈ E, 0 ≤ p.mn ∧ p.mn ≤ 52560000) (_hol : ord.length ≤ 9000000000000000000) :
    Calls Tryd.prog 20 #[.slice oe E.length ce, .slice oo ord.length co] w (XEOut E w) := by
  have HE := Lib.hid he
  have HO := Lib.hid ho
  have HM := Lib.hid hm
  clear he ho hm
  have HN := Lib.hid (show E.length ≤ 1000000000 by omega)
  go_enter Tryd.func20, Tryd.ntmps20
  go_wp2_with (at_make; refine wp_makeN zeroInt HN.out (by decide) rfl _ _ rfl rfl rfl ?_)
  intro w1 hblk hb1
  have HL0 := Lib.hid (show Blk w1 w.heap.size 3 (intsC (initL E.length 0)) from by rw [initL_zero, ← intsC_zero]; exact hblk)
  have HB1 := Lib.hid hb1
  clear hblk hb1
  obtain ⟨LB, hLB⟩ : ∃ B, w.heap.size = B := ⟨_, rfl⟩
  have HLB := Lib.hid hLB
  rw [hLB] at HL0 ⊢
  clear hLB
  go_wp2
  go_loopw [7, 18] (fun m i wr => ∃ (k : Nat) (M : Int), k ≤ E.length ∧ i = .int .i64 k ∧ m = .int .i64 M ∧ Blk wr LB 3 (intsC (initL E.length k)) ∧ Below w.heap.size w wr ∧ 0 ≤ M ∧ M ≤ 52560000 ∧ ∀ j, j < k → (E.getD j Ps.zero).mn ≤ M) (fun _ i _ => E.length - (intOf i).toNat)
  case atStart => exact ⟨0, 0, Nat.zero_le _, rfl, rfl, HL0.out, HB1.out, Int.le_refl _, by decide, fun j hj => absurd hj (Nat.not_lt_zero _)⟩
  case round =>
    obtain ⟨k, M, hk, rfl, rfl, hbl, hb, hM0, hM1, hMj⟩ := hrel
    have HL := Lib.hid hbl
    have HB := Lib.hid hb
    have HMJ := Lib.hid hMj
    have HM01 := Lib.hid (show 0 ≤ M ∧ M ≤ 52560000 from ⟨hM0, hM1⟩)
    clear hbl hb hMj HL0 HB1 hM0 hM1
    by_cases hlt : k < E.length
    · have HI := Lib.hid (show InitI E k from ⟨Int.natCast_nonneg k, Int.ofNat_lt.2 hlt, hlt⟩)
      have y1 := HI.out.y1
      have y2 := HI.out.y2
      have HLC := Lib.hid (show wr.cell? ⟨LB, k, none⟩ = some (.int .i64 ((initL E.length k).getD k 0)) from (HL.out.cell k).trans (intsC_get (by rw [initL_len hk]; exact hlt)))
      have l0 := HLC.out
      have lf := HL.out.frozen k
      have HLN := Lib.hid (show Blk (wr.setCell ⟨LB, k, none⟩ (.int .i64 (k : Int))) LB 3 (intsC (initL E.length (k + 1))) from by rw [← initL_set hlt, ← intsC_set]; exact HL.out.set k (.int .i64 (k : Int)))
      have HBN := Lib.hid (HB.out.setCell (p := ⟨LB, k, none⟩) (by rw [HLB.out]; exact Nat.le_refl _) (.int .i64 (k : Int)))
      obtain ⟨ge, fe, hgo, c0, c1⟩ := (HE.out.later HBN.out) k hlt
      subst hgo
      obtain ⟨pm, hpm⟩ : ∃ x, (E.getD k Ps.zero).mn = x := ⟨_, rfl⟩
      rw [hpm] at c1
      have HPB := Lib.hid (show 0 ≤ pm ∧ pm ≤ 52560000 from hpm ▸ HM.out _ (by rw [List.getD_eq_getElem?_getD, List.getElem?_eq_getElem hlt]; exact List.getElem_mem hlt))
      have HPM := Lib.hid hpm
      clear hpm c0
      go_upto_region 7 with (fail)
      clear l0 lf
      rcases maxI HMJ.out HM01.out HPM.out HPB.out with ⟨hlt2, hmx⟩ | ⟨heq, hmx⟩ | ⟨hgt, hmx⟩
      · have m1 : max M pm = pm := Int.max_eq_right (Int.le_of_lt hlt2)
        have HMX := Lib.hid hmx
        clear hmx
        go_wp2
        go_roundw
        case rel => exact ⟨k + 1, pm, HI.out.next, by go_num, rfl, HLN.out, HBN.out, HMX.out.1, HMX.out.2.1, HMX.out.2.2⟩
        case measure => simp [intOf]; omega
      · subst heq
        have m1 : max M M = M := Int.max_self M
        have HMX := Lib.hid hmx
        clear hmx
        go_wp2
        go_roundw
        case rel => exact ⟨k + 1, M, HI.out.next, by go_num, rfl, HLN.out, HBN.out, HMX.out.1, HMX.out.2.1, HMX.out.2.2⟩
        case measure => simp [intOf]; omega
      · have m1 : max M pm = M := Int.max_eq_left (Int.le_of_lt hgt)
        have m2 : ¬ M < pm := Int.not_lt.2 (Int.le_of_lt hgt)
        have HMX := Lib.hid hmx
        clear hmx
        go_wp2
        go_roundw
        case rel => exact ⟨k + 1, M, HI.out.next, by go_num, rfl, HLN.out, HBN.out, HMX.out.1, HMX.out.2.1, HMX.out.2.2⟩
        case measure => simp [intOf]; omega
    · obtain rfl : k = E.length := by omega
      have HX0 := Lib.hid (show XR w wr (.slice none 0 0) (.slice none 0 0) (some ⟨LB, 0, none⟩) (outL E M []) (toN []) (toN (List.range E.length)) from XR.first HB.out HL.out)
      have HLR := Lib.hid (show (List.range E.length).length = E.length from List.length_range)
      clear HL
      go_wp2
      go_loopw [6, 7, 9, 10] (fun vl m vo vf wr => ∃ (oL : Option Addr) (cL : Nat) (of left : List Nat), vl = .slice oL left.length cL ∧ left.length ≤ cL ∧ m = .int .i64 (M + (of.length : Int)) ∧ XR w wr vo vf oL (outL E M of) (toN of) (toN left) ∧ (of ++ left).Perm (List.range E.length)) (fun vl _ _ _ _ => lenV vl)
      case atStart => exact ⟨some ⟨LB, 0, none⟩, E.length, [], List.range E.length, by rw [HLR.out], by rw [HLR.out]; exact Nat.le_refl _, by simp, HX0.out, List.Perm.refl _⟩
      case round =>
        obtain ⟨oL, cL, of, left, rfl, hcL, rfl, hxr, hpm⟩ := hrel
        have HXR := Lib.hid hxr
        have HPM := Lib.hid hpm
        clear hxr hpm HX0 HLR
        rcases Nat.eq_zero_or_pos left.length with h0 | hpos
        · obtain rfl : left = [] := List.eq_nil_of_length_eq_zero h0
          have HLE := Lib.hid (show of.length = E.length from by have := HPM.out.length_eq; simpa using this)
          obtain ⟨o1, c1, hv1⟩ := ownsRow_shape HXR.out.ro
          obtain ⟨o2, c2, hv2⟩ := ownsRow_shape HXR.out.rf
          rw [outL_len, HLE.out] at hv1
          rw [toN_len, HLE.out] at hv2
          subst hv1
          subst hv2
          have HPP := Lib.hid (show of.Perm (List.range E.length) from by have := HPM.out; rwa [List.append_nil] at this)
          go_wp2
          refine bodyPost_ret (results_tmp2 rfl _ _ _) rfl ?_
          exact ⟨of, M, o1, o2, c1, c2, rfl, HXR.out.done, HPP.out, HMJ.out, HM01.out.1, HM01.out.2⟩
        · have HPOS := Lib.hid hpos
          have hd : decide ((0 : Int) < (left.length : Int)) = true := decide_eq_true (Int.ofNat_lt.2 hpos)
          obtain ⟨oO, cO, hvo⟩ := ownsRow_shape HXR.out.ro
          rw [outL_len] at hvo
          rw [hvo] at HXR
          rw [hvo]
          clear hvo
          go_upto_if 41 with (fail)
          go_cut [11] (fun kv wx => ∃ k : Nat, k < left.length ∧ kv = .int .i64 (k : Int) ∧ wx = wr)
          case first =>
            by_cases hlt2 : of.length < ord.length
            · have hd2 : decide (of.length < ord.length) = true := decide_eq_true hlt2
              obtain ⟨go, fo, hgo, u0, ux⟩ := (HO.out.later HXR.out.below) of.length hlt2
              subst hgo
              obtain ⟨x, hx⟩ : ∃ x, ord.getD of.length 0 = x := ⟨_, rfl⟩
              rw [hx] at u0 ux
              clear hx
              have HRI := Lib.hid (remI HPOS.out ux h8 HPM.out hlt2)
              have z1 := HRI.out.y1
              have z2 := HRI.out.y2
              have z3 := HRI.out.ne
              have z4 := HRI.out.ne2
              have z5 := HRI.out.rem
              clear ux
              go_wp2_with fail
              go_meet
              case rel => exact ⟨x % left.length, HRI.out.lt, congrArg (Value.int .i64) HRI.out.rem2, rfl⟩
            · have hd2 : decide (of.length < ord.length) = false := decide_eq_false hlt2
              go_wp2_with fail
              go_meet
              case rel => exact ⟨0, HPOS.out, rfl, rfl⟩
          case rest =>
            obtain ⟨k, hk, rfl, rfl⟩ := hcut
            obtain ⟨bL, fL, hgoL, hSL, l0⟩ := HXR.out.left k (by rw [toN_len]; exact hk)
            subst hgoL
            rw [toN_get hk] at l0
            have HST := Lib.hid (stepI (M := M) HPM.out hk h8 HM01.out)
            obtain ⟨x, hx⟩ : ∃ x, left.getD k 0 = x := ⟨_, rfl⟩
            rw [hx] at l0 HST
            obtain ⟨ge, fe, hgo, e0, _⟩ := HE.out x HST.out.xlt
            subst hgo
            have q1 := HST.out.w1
            have q2 := HST.out.w2
            have q3 := HST.out.y1
            have q4 := HST.out.y2
            have q5 := HST.out.y3
            have q6 := HST.out.y4
            have HE0 := Lib.hid e0
            have HLX := Lib.hid (fun (w' : World) (vo' vf' : Value) (out' : List Ps) (of' : List Int) (h : XR w w' vo' vf' (some ⟨bL, fL, none⟩) out' of' (toN left)) => XR.leftAt h hk hx)
            obtain ⟨st, hst⟩ : ∃ s, (E.getD x Ps.zero).s = s := ⟨_, rfl⟩
            rw [hst] at HE0
            have HSN := Lib.hid (outL_snoc E M of x)
            rw [hst] at HSN
            have HXV := Lib.hid hx
            clear e0 hx l0 hst
            have HNN := Lib.hid (stepN (E := E) (M := M) HPM.out h8)
            go_upto_region 17 with (fail)
            go_cut [9, 10] (fun a b wx => XR w wx a b (some ⟨bL, fL, none⟩) (outL E M (of ++ [x])) (toN (of ++ [x])) (toN left))
            case first =>

              refine wp_region_maskG [11, 12, 18, 19, 20, 21] [true, true, true, true, true, true, true, true, true, true, true, false, false, true, true, true, true, true, false, false, false, false] (fun w'' => w''.cell? ⟨bL, fL + k, none⟩ = some (.int .i64 (x : Int)) ∧ w''.cell? ⟨ge, fe + x * 2, none⟩ = some (.string st)) mixed (by kernel_rfl) ?_
              intro KR hR
              have HR := Lib.hid hR
              clear hR
              simp only [marked]
              apply wpM_val rfl
              · (intro w' hw'; go_simp; with_reducible rfl)
              simp only [Act.put, List.setIfInBounds_toArray, List.set_cons_zero, List.set_cons_succ]
              apply wpM_val rfl
              · (intro w' hw'; go_simp; with_reducible rfl)
              simp only [Act.put, List.setIfInBounds_toArray, List.set_cons_zero, List.set_cons_succ]
              apply wpM_val rfl
              · (intro w' hw'; go_simp; with_reducible rfl)
              simp only [Act.put, List.setIfInBounds_toArray, List.set_cons_zero, List.set_cons_succ]
              apply wpM_val rfl
              · (intro w' hw'; go_simp; with_reducible rfl)
              simp only [Act.put, List.setIfInBounds_toArray, List.set_cons_zero, List.set_cons_succ]
              apply wpM_val rfl
              · (intro w' hw'; go_simp; with_reducible rfl)
              simp only [Act.put, List.setIfInBounds_toArray, List.set_cons_zero, List.set_cons_succ]
              apply wpM_val rfl
              · (intro w' hw'; obtain ⟨c0, c1⟩ := hw'; go_simp; with_reducible rfl)
              simp only [Act.put, List.setIfInBounds_toArray, List.set_cons_zero, List.set_cons_succ]
              apply wpM_val rfl
              · (intro w' hw'; go_simp; with_reducible rfl)
              simp only [Act.put, List.setIfInBounds_toArray, List.set_cons_zero, List.set_cons_succ]
              apply wpM_val rfl
              · (intro w' hw'; go_simp; with_reducible rfl)
              simp only [Act.put, List.setIfInBounds_toArray, List.set_cons_zero, List.set_cons_succ]
              apply wpM_val rfl
              · (intro w' hw'; obtain ⟨c0, c1⟩ := hw'; go_simp; with_reducible rfl)
              simp only [Act.put, List.setIfInBounds_toArray, List.set_cons_zero, List.set_cons_succ]
              apply wpM_val rfl
              · (intro w' hw'; go_simp; with_reducible rfl)
              simp only [Act.put, List.setIfInBounds_toArray, List.set_cons_zero, List.set_cons_succ]
              apply wpM_val rfl
              · (intro w' hw'; go_simp; with_reducible rfl)
              simp only [Act.put, List.setIfInBounds_toArray, List.set_cons_zero, List.set_cons_succ]
              apply wpM_val rfl
              · (intro w' hw'; go_simp; with_reducible rfl)
              simp only [Act.put, List.setIfInBounds_toArray, List.set_cons_zero, List.set_cons_succ]
              apply wpM_val rfl
              · (intro w' hw'; go_simp; with_reducible rfl)
              simp only [Act.put, List.setIfInBounds_toArray, List.set_cons_zero, List.set_cons_succ]
              apply wpM_val rfl
              · (intro w' hw'; go_simp; with_reducible rfl)
              simp only [Act.put, List.setIfInBounds_toArray, List.set_cons_zero, List.set_cons_succ]
              apply wpM_val rfl
              · (intro w' hw'; go_simp; with_reducible rfl)
              simp only [Act.put, List.setIfInBounds_toArray, List.set_cons_zero, List.set_cons_succ]
              apply wpM_val rfl
              · (intro w' hw'; obtain ⟨c0, c1⟩ := hw'; go_simp; with_reducible rfl)
              simp only [Act.put, List.setIfInBounds_toArray, List.set_cons_zero, List.set_cons_succ]
              refine wpM_nil (HR.out _ ?_)
              clear HR
              have HX9 := Lib.hid (HXR.out.later (Below.refl _ _).drew)
              generalize wc.drew = W9 at HX9 ⊢
              refine ⟨⟨HLX.out _ _ _ _ _ HX9.out, cell_kept HX9.out.below HE0.out⟩, fun c hc hfree => ?_⟩
              have hc2 : c ∈ ([11, 12, 18, 19, 20, 21] : List Nat) := hc
              clear hc
              simp only [List.mem_cons, List.not_mem_nil, or_false] at hc2
              rcases hc2 with rfl | rfl | rfl | rfl | rfl | rfl
              · refine ⟨_, rfl, rfl, stepF_val (v := .slice (some ⟨W9.heap.size, 0, none⟩) 1 1) (w' := W9.alloc (.cells #[.string st, .int .i64 (M + (of.length : Int) + 1)] 35)) (by go_simp) ?_⟩
                simp only [List.getElem_toArray, List.getElem_cons_zero, List.getElem_cons_succ, Act.put, List.setIfInBounds_toArray, List.set_cons_zero, List.set_cons_succ]
                have HX1 := Lib.hid (HX9.out.later (below_alloc (Below.refl W9.heap.size W9) (.cells #[.string st, .int .i64 (M + (of.length : Int) + 1)] 35)))
                have HL1_1 := Lib.hid (show LitAt (W9.alloc (.cells #[.string st, .int .i64 (M + (of.length : Int) + 1)] 35)) W9.heap.size (psC ⟨st, M + (of.length : Int) + 1⟩) from LitAt.new W9 35 (psC ⟨st, M + (of.length : Int) + 1⟩))
                have HO1_1 := Lib.hid HX9.out.own_lt
                generalize W9.alloc (.cells #[.string st, .int .i64 (M + (of.length : Int) + 1)] 35) = W1 at HX1 HL1_1 ⊢
                generalize W9.heap.size = G1_1 at HL1_1 HO1_1 ⊢
                refine ⟨⟨HLX.out _ _ _ _ _ HX1.out, cell_kept HX1.out.below HE0.out⟩, fun c hc hfree => ?_⟩
                have hc2 : c ∈ ([12, 18, 19, 20, 21] : List Nat) := hc
                clear hc
                simp only [List.mem_cons, List.not_mem_nil, or_false] at hc2
                rcases hc2 with rfl | rfl | rfl | rfl | rfl
                · obtain ⟨vo2, W2, hrun, hx2, hgr⟩ := HX1.out.pushO (p := ⟨st, M + (of.length : Int) + 1⟩) HL1_1.out HNN.out.1
                  refine ⟨_, rfl, rfl, stepF_val (v := vo2) (w' := W2) (run_exec_append rfl rfl rfl hrun) ?_⟩
                  simp only [List.getElem_toArray, List.getElem_cons_zero, List.getElem_cons_succ, Act.put, List.setIfInBounds_toArray, List.set_cons_zero, List.set_cons_succ]
                  have HX2 := Lib.hid hx2
                  clear hrun hx2 hgr
                  refine ⟨⟨HLX.out _ _ _ _ _ HX2.out, cell_kept HX2.out.below HE0.out⟩, fun c hc hfree => ?_⟩
                  have hc2 : c ∈ ([18, 19, 20, 21] : List Nat) := hc
                  clear hc
                  simp only [List.mem_cons, List.not_mem_nil, or_false] at hc2
                  rcases hc2 with rfl | rfl | rfl | rfl
                  · refine ⟨_, rfl, rfl, stepF_val (v := .slice (some ⟨W2.heap.size, 0, none⟩) 1 1) (w' := W2.alloc (.cells #[.int .i64 (x : Int)] 3)) (by go_simp) ?_⟩
                    simp only [List.getElem_toArray, List.getElem_cons_zero, List.getElem_cons_succ, Act.put, List.setIfInBounds_toArray, List.set_cons_zero, List.set_cons_succ]
                    have HX3 := Lib.hid (HX2.out.later (below_alloc (Below.refl W2.heap.size W2) (.cells #[.int .i64 (x : Int)] 3)))
                    have HL2_3 := Lib.hid (show LitAt (W2.alloc (.cells #[.int .i64 (x : Int)] 3)) W2.heap.size ([.int .i64 (x : Int)]) from LitAt.new W2 3 ([.int .i64 (x : Int)]))
                    have HO2_3 := Lib.hid HX2.out.own_lt
                    generalize W2.alloc (.cells #[.int .i64 (x : Int)] 3) = W3 at HX3 HL2_3 ⊢
                    generalize W2.heap.size = G2_3 at HL2_3 HO2_3 ⊢
                    refine ⟨⟨HLX.out _ _ _ _ _ HX3.out, cell_kept HX3.out.below HE0.out⟩, fun c hc hfree => ?_⟩
                    have hc2 : c ∈ ([19, 20, 21] : List Nat) := hc
                    clear hc
                    simp only [List.mem_cons, List.not_mem_nil, or_false] at hc2
                    rcases hc2 with rfl | rfl | rfl
                    · obtain ⟨vf4, W4, hrun, hx4, hgr⟩ := HX3.out.pushF (x := (x : Int)) HL2_3.out HNN.out.2
                      refine ⟨_, rfl, rfl, stepF_val (v := vf4) (w' := W4) (run_exec_append rfl rfl rfl hrun) ?_⟩
                      simp only [List.getElem_toArray, List.getElem_cons_zero, List.getElem_cons_succ, Act.put, List.setIfInBounds_toArray, List.set_cons_zero, List.set_cons_succ]
                      have HX4 := Lib.hid hx4
                      clear hrun hx4 hgr
                      refine ⟨⟨HLX.out _ _ _ _ _ HX4.out, cell_kept HX4.out.below HE0.out⟩, fun c hc hfree => ?_⟩
                      have hc2 : c ∈ ([20, 21] : List Nat) := hc
                      clear hc
                      simp only [List.mem_cons, List.not_mem_nil, or_false] at hc2
                      rcases hc2 with rfl | rfl
                      · refine ⟨_, rfl, rfl, stepF_val (v := vo2) (w' := W4) (by go_simp) ?_⟩
                        simp only [List.getElem_toArray, List.getElem_cons_zero, List.getElem_cons_succ, Act.put, List.setIfInBounds_toArray, List.set_cons_zero, List.set_cons_succ]
                        refine ⟨⟨HLX.out _ _ _ _ _ HX4.out, cell_kept HX4.out.below HE0.out⟩, fun c hc hfree => ?_⟩
                        have hc2 : c ∈ ([21] : List Nat) := hc
                        clear hc
                        simp only [List.mem_cons, List.not_mem_nil, or_false] at hc2
                        subst hc2
                        refine ⟨_, rfl, rfl, stepF_val (v := vf4) (w' := W4) (by go_simp) ?_⟩
                        simp only [List.getElem_toArray, List.getElem_cons_zero, List.getElem_cons_succ, Act.put, List.setIfInBounds_toArray, List.set_cons_zero, List.set_cons_succ]
                        refine wpF_end ?_
                        go_wp2_with fail
                        go_meet
                        case rel => rw [toN_snoc, HSN.out]; exact HX4.out
                      · exact Bool.noConfusion (hfree.symm.trans (by kernel_rfl) : true = false)
                    · exact Bool.noConfusion (hfree.symm.trans (by kernel_rfl) : true = false)
                    · exact Bool.noConfusion (hfree.symm.trans (by kernel_rfl) : true = false)
                  · exact Bool.noConfusion (hfree.symm.trans (by kernel_rfl) : true = false)
                  · exact Bool.noConfusion (hfree.symm.trans (by kernel_rfl) : true = false)
                  · exact Bool.noConfusion (hfree.symm.trans (by kernel_rfl) : true = false)
                · refine ⟨_, rfl, rfl, stepF_val (v := .slice (some ⟨W1.heap.size, 0, none⟩) 1 1) (w' := W1.alloc (.cells #[.int .i64 (x : Int)] 3)) (by go_simp) ?_⟩
                  simp only [List.getElem_toArray, List.getElem_cons_zero, List.getElem_cons_succ, Act.put, List.setIfInBounds_toArray, List.set_cons_zero, List.set_cons_succ]
                  have HX7 := Lib.hid (HX1.out.later (below_alloc (Below.refl W1.heap.size W1) (.cells #[.int .i64 (x : Int)] 3)))
                  have HL2_7 := Lib.hid (show LitAt (W1.alloc (.cells #[.int .i64 (x : Int)] 3)) W1.heap.size ([.int .i64 (x : Int)]) from LitAt.new W1 3 ([.int .i64 (x : Int)]))
                  have HO2_7 := Lib.hid HX1.out.own_lt
                  have HL1_7 := Lib.hid (HL1_1.out.later (below_alloc (Below.refl W1.heap.size W1) (.cells #[.int .i64 (x : Int)] 3)))
                  generalize W1.alloc (.cells #[.int .i64 (x : Int)] 3) = W7 at HX7 HL2_7 HL1_7 ⊢
                  generalize W1.heap.size = G2_7 at HL2_7 HO2_7 ⊢
                  refine ⟨⟨HLX.out _ _ _ _ _ HX7.out, cell_kept HX7.out.below HE0.out⟩, fun c hc hfree => ?_⟩
                  have hc2 : c ∈ ([12, 19, 20, 21] : List Nat) := hc
                  clear hc
                  simp only [List.mem_cons, List.not_mem_nil, or_false] at hc2
                  rcases hc2 with rfl | rfl | rfl | rfl
                  · obtain ⟨vo8, W8, hrun, hx8, hgr⟩ := HX7.out.pushO (p := ⟨st, M + (of.length : Int) + 1⟩) HL1_7.out HNN.out.1
                    refine ⟨_, rfl, rfl, stepF_val (v := vo8) (w' := W8) (run_exec_append rfl rfl rfl hrun) ?_⟩
                    simp only [List.getElem_toArray, List.getElem_cons_zero, List.getElem_cons_succ, Act.put, List.setIfInBounds_toArray, List.set_cons_zero, List.set_cons_succ]
                    have HX8 := Lib.hid hx8
                    have HL2_8 := Lib.hid (HL2_7.out.grown hgr HO2_7.out.1)
                    clear hrun hx8 hgr
                    refine ⟨⟨HLX.out _ _ _ _ _ HX8.out, cell_kept HX8.out.below HE0.out⟩, fun c hc hfree => ?_⟩
                    have hc2 : c ∈ ([19, 20, 21] : List Nat) := hc
                    clear hc
                    simp only [List.mem_cons, List.not_mem_nil, or_false] at hc2
                    rcases hc2 with rfl | rfl | rfl
                    · obtain ⟨vf9, W9, hrun, hx9, hgr⟩ := HX8.out.pushF (x := (x : Int)) HL2_8.out HNN.out.2
                      refine ⟨_, rfl, rfl, stepF_val (v := vf9) (w' := W9) (run_exec_append rfl rfl rfl hrun) ?_⟩
                      simp only [List.getElem_toArray, List.getElem_cons_zero, List.getElem_cons_succ, Act.put, List.setIfInBounds_toArray, List.set_cons_zero, List.set_cons_succ]
                      have HX9 := Lib.hid hx9
                      clear hrun hx9 hgr
                      refine ⟨⟨HLX.out _ _ _ _ _ HX9.out, cell_kept HX9.out.below HE0.out⟩, fun c hc hfree => ?_⟩
                      have hc2 : c ∈ ([20, 21] : List Nat) := hc
                      clear hc
                      simp only [List.mem_cons, List.not_mem_nil, or_false] at hc2
                      rcases hc2 with rfl | rfl
                      · refine ⟨_, rfl, rfl, stepF_val (v := vo8) (w' := W9) (by go_simp) ?_⟩
                        simp only [List.getElem_toArray, List.getElem_cons_zero, List.getElem_cons_succ, Act.put, List.setIfInBounds_toArray, List.set_cons_zero, List.set_cons_succ]
                        refine ⟨⟨HLX.out _ _ _ _ _ HX9.out, cell_kept HX9.out.below HE0.out⟩, fun c hc hfree => ?_⟩
                        have hc2 : c ∈ ([21] : List Nat) := hc
                        clear hc
                        simp only [List.mem_cons, List.not_mem_nil, or_false] at hc2
                        subst hc2
                        refine ⟨_, rfl, rfl, stepF_val (v := vf9) (w' := W9) (by go_simp) ?_⟩
                        simp only [List.getElem_toArray, List.getElem_cons_zero, List.getElem_cons_succ, Act.put, List.setIfInBounds_toArray, List.set_cons_zero, List.set_cons_succ]
                        refine wpF_end ?_
                        go_wp2_with fail
                        go_meet
                        case rel => rw [toN_snoc, HSN.out]; exact HX9.out
                      · exact Bool.noConfusion (hfree.symm.trans (by kernel_rfl) : true = false)
                    · exact Bool.noConfusion (hfree.symm.trans (by kernel_rfl) : true = false)
                    · exact Bool.noConfusion (hfree.symm.trans (by kernel_rfl) : true = false)
                  · exact Bool.noConfusion (hfree.symm.trans (by kernel_rfl) : true = false)
                  · exact Bool.noConfusion (hfree.symm.trans (by kernel_rfl) : true = false)
                  · exact Bool.noConfusion (hfree.symm.trans (by kernel_rfl) : true = false)
                · exact Bool.noConfusion (hfree.symm.trans (by kernel_rfl) : true = false)
                · exact Bool.noConfusion (hfree.symm.trans (by kernel_rfl) : true = false)
                · exact Bool.noConfusion (hfree.symm.trans (by kernel_rfl) : true = false)
              · exact Bool.noConfusion (hfree.symm.trans (by kernel_rfl) : true = false)
              · refine ⟨_, rfl, rfl, stepF_val (v := .slice (some ⟨W9.heap.size, 0, none⟩) 1 1) (w' := W9.alloc (.cells #[.int .i64 (x : Int)] 3)) (by go_simp) ?_⟩
                simp only [List.getElem_toArray, List.getElem_cons_zero, List.getElem_cons_succ, Act.put, List.setIfInBounds_toArray, List.set_cons_zero, List.set_cons_succ]
                have HX12 := Lib.hid (HX9.out.later (below_alloc (Below.refl W9.heap.size W9) (.cells #[.int .i64 (x : Int)] 3)))
                have HL2_12 := Lib.hid (show LitAt (W9.alloc (.cells #[.int .i64 (x : Int)] 3)) W9.heap.size ([.int .i64 (x : Int)]) from LitAt.new W9 3 ([.int .i64 (x : Int)]))
                have HO2_12 := Lib.hid HX9.out.own_lt
                generalize W9.alloc (.cells #[.int .i64 (x : Int)] 3) = W12 at HX12 HL2_12 ⊢
                generalize W9.heap.size = G2_12 at HL2_12 HO2_12 ⊢
                refine ⟨⟨HLX.out _ _ _ _ _ HX12.out, cell_kept HX12.out.below HE0.out⟩, fun c hc hfree => ?_⟩
                have hc2 : c ∈ ([11, 12, 19, 20, 21] : List Nat) := hc
                clear hc
                simp only [List.mem_cons, List.not_mem_nil, or_false] at hc2
                rcases hc2 with rfl | rfl | rfl | rfl | rfl
                · refine ⟨_, rfl, rfl, stepF_val (v := .slice (some ⟨W12.heap.size, 0, none⟩) 1 1) (w' := W12.alloc (.cells #[.string st, .int .i64 (M + (of.length : Int) + 1)] 35)) (by go_simp) ?_⟩
                  simp only [List.getElem_toArray, List.getElem_cons_zero, List.getElem_cons_succ, Act.put, List.setIfInBounds_toArray, List.set_cons_zero, List.set_cons_succ]
                  have HX13 := Lib.hid (HX12.out.later (below_alloc (Below.refl W12.heap.size W12) (.cells #[.string st, .int .i64 (M + (of.length : Int) + 1)] 35)))
                  have HL1_13 := Lib.hid (show LitAt (W12.alloc (.cells #[.string st, .int .i64 (M + (of.length : Int) + 1)] 35)) W12.heap.size (psC ⟨st, M + (of.length : Int) + 1⟩) from LitAt.new W12 35 (psC ⟨st, M + (of.length : Int) + 1⟩))
                  have HO1_13 := Lib.hid HX12.out.own_lt
                  have HL2_13 := Lib.hid (HL2_12.out.later (below_alloc (Below.refl W12.heap.size W12) (.cells #[.string st, .int .i64 (M + (of.length : Int) + 1)] 35)))
                  generalize W12.alloc (.cells #[.string st, .int .i64 (M + (of.length : Int) + 1)] 35) = W13 at HX13 HL1_13 HL2_13 ⊢
                  generalize W12.heap.size = G1_13 at HL1_13 HO1_13 ⊢
                  refine ⟨⟨HLX.out _ _ _ _ _ HX13.out, cell_kept HX13.out.below HE0.out⟩, fun c hc hfree => ?_⟩
                  have hc2 : c ∈ ([12, 19, 20, 21] : List Nat) := hc
                  clear hc
                  simp only [List.mem_cons, List.not_mem_nil, or_false] at hc2
                  rcases hc2 with rfl | rfl | rfl | rfl
                  · obtain ⟨vo14, W14, hrun, hx14, hgr⟩ := HX13.out.pushO (p := ⟨st, M + (of.length : Int) + 1⟩) HL1_13.out HNN.out.1
                    refine ⟨_, rfl, rfl, stepF_val (v := vo14) (w' := W14) (run_exec_append rfl rfl rfl hrun) ?_⟩
                    simp only [List.getElem_toArray, List.getElem_cons_zero, List.getElem_cons_succ, Act.put, List.setIfInBounds_toArray, List.set_cons_zero, List.set_cons_succ]
                    have HX14 := Lib.hid hx14
                    have HL2_14 := Lib.hid (HL2_13.out.grown hgr HO2_12.out.1)
                    clear hrun hx14 hgr
                    refine ⟨⟨HLX.out _ _ _ _ _ HX14.out, cell_kept HX14.out.below HE0.out⟩, fun c hc hfree => ?_⟩
                    have hc2 : c ∈ ([19, 20, 21] : List Nat) := hc
                    clear hc
                    simp only [List.mem_cons, List.not_mem_nil, or_false] at hc2
                    rcases hc2 with rfl | rfl | rfl
                    · obtain ⟨vf15, W15, hrun, hx15, hgr⟩ := HX14.out.pushF (x := (x : Int)) HL2_14.out HNN.out.2
                      refine ⟨_, rfl, rfl, stepF_val (v := vf15) (w' := W15) (run_exec_append rfl rfl rfl hrun) ?_⟩
                      simp only [List.getElem_toArray, List.getElem_cons_zero, List.getElem_cons_succ, Act.put, List.setIfInBounds_toArray, List.set_cons_zero, List.set_cons_succ]
                      have HX15 := Lib.hid hx15
                      clear hrun hx15 hgr
                      refine ⟨⟨HLX.out _ _ _ _ _ HX15.out, cell_kept HX15.out.below HE0.out⟩, fun c hc hfree => ?_⟩
                      have hc2 : c ∈ ([20, 21] : List Nat) := hc
                      clear hc
                      simp only [List.mem_cons, List.not_mem_nil, or_false] at hc2
                      rcases hc2 with rfl | rfl
                      · refine ⟨_, rfl, rfl, stepF_val (v := vo14) (w' := W15) (by go_simp) ?_⟩
                        simp only [List.getElem_toArray, List.getElem_cons_zero, List.getElem_cons_succ, Act.put, List.setIfInBounds_toArray, List.set_cons_zero, List.set_cons_succ]
                        refine ⟨⟨HLX.out _ _ _ _ _ HX15.out, cell_kept HX15.out.below HE0.out⟩, fun c hc hfree => ?_⟩
                        have hc2 : c ∈ ([21] : List Nat) := hc
                        clear hc
                        simp only [List.mem_cons, List.not_mem_nil, or_false] at hc2
                        subst hc2
                        refine ⟨_, rfl, rfl, stepF_val (v := vf15) (w' := W15) (by go_simp) ?_⟩
                        simp only [List.getElem_toArray, List.getElem_cons_zero, List.getElem_cons_succ, Act.put, List.setIfInBounds_toArray, List.set_cons_zero, List.set_cons_succ]
                        refine wpF_end ?_
                        go_wp2_with fail
                        go_meet
                        case rel => rw [toN_snoc, HSN.out]; exact HX15.out
                      · exact Bool.noConfusion (hfree.symm.trans (by kernel_rfl) : true = false)
                    · exact Bool.noConfusion (hfree.symm.trans (by kernel_rfl) : true = false)
                    · exact Bool.noConfusion (hfree.symm.trans (by kernel_rfl) : true = false)
                  · exact Bool.noConfusion (hfree.symm.trans (by kernel_rfl) : true = false)
                  · exact Bool.noConfusion (hfree.symm.trans (by kernel_rfl) : true = false)
                  · exact Bool.noConfusion (hfree.symm.trans (by kernel_rfl) : true = false)
                · exact Bool.noConfusion (hfree.symm.trans (by kernel_rfl) : true = false)
                · exact Bool.noConfusion (hfree.symm.trans (by kernel_rfl) : true = false)
                · exact Bool.noConfusion (hfree.symm.trans (by kernel_rfl) : true = false)
                · exact Bool.noConfusion (hfree.symm.trans (by kernel_rfl) : true = false)
              · exact Bool.noConfusion (hfree.symm.trans (by kernel_rfl) : true = false)
              · exact Bool.noConfusion (hfree.symm.trans (by kernel_rfl) : true = false)
              · exact Bool.noConfusion (hfree.symm.trans (by kernel_rfl) : true = false)
            case rest =>
              have HXC := Lib.hid hcut
              clear hcut
              have hk1 : k ≤ cL := Nat.le_trans (Nat.le_of_lt hk) hcL
              have HAD := Lib.hid (twoAddr bL fL cL k)
              obtain ⟨ad2, hA2⟩ := HAD.out
              have q7 := HST.out.w3
              have q8 := HST.out.y5
              have q9 := HST.out.y6
              have q10 := HST.out.tn
              go_upto_region 18 with (fail)

              refine wp_region_maskG [0, 4, 9, 10] [false, true, true, true, false, true, true, true, true, false, false] (fun w'' => True) mixed (by kernel_rfl) ?_
              intro KR hR
              have HR := Lib.hid hR
              clear hR
              simp only [marked]
              apply wpM_val rfl
              · (intro w' hw'; go_simp; with_reducible rfl)
              simp only [Act.put, List.setIfInBounds_toArray, List.set_cons_zero, List.set_cons_succ]
              apply wpM_val rfl
              · (intro w' hw'; go_simp; with_reducible rfl)
              simp only [Act.put, List.setIfInBounds_toArray, List.set_cons_zero, List.set_cons_succ]
              apply wpM_val rfl
              · (intro w' hw'; go_simp; with_reducible rfl)
              simp only [Act.put, List.setIfInBounds_toArray, List.set_cons_zero, List.set_cons_succ]
              apply wpM_val rfl
              · (intro w' hw'; go_simp; with_reducible rfl)
              simp only [Act.put, List.setIfInBounds_toArray, List.set_cons_zero, List.set_cons_succ]
              apply wpM_val rfl
              · (intro w' hw'; go_simp; with_reducible rfl)
              simp only [Act.put, List.setIfInBounds_toArray, List.set_cons_zero, List.set_cons_succ]
              apply wpM_val rfl
              · (intro w' hw'; go_simp; with_reducible rfl)
              simp only [Act.put, List.setIfInBounds_toArray, List.set_cons_zero, List.set_cons_succ]
              apply wpM_val rfl
              · (intro w' hw'; go_simp; with_reducible rfl)
              simp only [Act.put, List.setIfInBounds_toArray, List.set_cons_zero, List.set_cons_succ]
              refine wpM_nil (HR.out _ ?_)
              clear HR
              have HX9 := Lib.hid (HXC.out.later (Below.refl _ _).drew)
              generalize wc.drew = W9 at HX9 ⊢
              have HRF := Lib.hid (restF (M := M) HPM.out hk h8)
              have HCT := Lib.hid (fun (w' : World) (hb : Below W9.heap.size W9 w') => XR.cells (HX9.out.later hb))
              refine ⟨trivial, fun c hc hfree => ?_⟩
              simp only [List.mem_cons, List.not_mem_nil, or_false] at hc
              rcases hc with rfl | rfl | rfl | rfl
              rotate_left
              · exact Bool.noConfusion (hfree.symm.trans (by kernel_rfl) : true = false)
              · exact Bool.noConfusion (hfree.symm.trans (by kernel_rfl) : true = false)
              · exact Bool.noConfusion (hfree.symm.trans (by kernel_rfl) : true = false)
              refine ⟨_, rfl, rfl, stepF_val (v := .slice (some ⟨W9.heap.size, 0, none⟩) 0 0) (w' := W9.alloc (.cells #[] 3)) (by go_simp) ?_⟩
              simp only [List.getElem_toArray, List.getElem_cons_zero, Act.put, List.setIfInBounds_toArray, List.set_cons_zero, List.set_cons_succ]
              have HR0 := Lib.hid (show Row W9 (W9.alloc (.cells #[] 3)) 3 1 (.slice (some ⟨W9.heap.size, 0, none⟩) 0 0) 0 [] from Row.lit (Below.refl _ _) #[] 0 (by decide) rfl)
              refine ⟨trivial, fun c hc hfree => ?_⟩
              simp only [List.erase_cons_head, List.mem_cons, List.not_mem_nil, or_false] at hc
              rcases hc with rfl | rfl | rfl
              rotate_left
              · exact Bool.noConfusion (hfree.symm.trans (by kernel_rfl) : true = false)
              · exact Bool.noConfusion (hfree.symm.trans (by kernel_rfl) : true = false)
              obtain ⟨v1, Wa, hrun, hrow⟩ := Row.pushS (P := Tryd.prog) (tt := 36) (ty := 36) (k := k) (c := cL) elemInt HR0.out HRF.out.n1 (by decide) HRF.out.l1 (intsV_one _) (cells_take (HCT.out _ HR0.out.below))
              refine ⟨_, rfl, rfl, stepF_val (v := v1) (w' := Wa) (run_exec_append rfl rfl rfl hrun) ?_⟩
              simp only [List.getElem_toArray, List.getElem_cons_zero, List.getElem_cons_succ, Act.put, List.setIfInBounds_toArray, List.set_cons_zero, List.set_cons_succ]
              have HR1 := Lib.hid hrow
              clear hrun hrow
              refine ⟨trivial, fun c hc hfree => ?_⟩
              simp only [List.erase_cons_head, List.mem_cons, List.not_mem_nil, or_false] at hc
              rcases hc with rfl | rfl
              rotate_left
              · exact Bool.noConfusion (hfree.symm.trans (by kernel_rfl) : true = false)
              obtain ⟨v2, Wb, hrun, hrow⟩ := Row.pushS (P := Tryd.prog) (tt := 36) (ty := 36) (k := left.length - (k + 1)) (c := cL - (k + 1)) elemInt HR1.out HRF.out.n2 (by decide) HRF.out.l2 (intsV_one _) (cells_drop hcL hA2 (HCT.out _ HR1.out.below))
              refine ⟨_, rfl, rfl, stepF_val (v := v2) (w' := Wb) (run_exec_append rfl rfl rfl hrun) ?_⟩
              simp only [List.getElem_toArray, List.getElem_cons_zero, List.getElem_cons_succ, Act.put, List.setIfInBounds_toArray, List.set_cons_zero, List.set_cons_succ]
              have HR2 := Lib.hid hrow
              clear hrun hrow
              refine ⟨trivial, fun c hc hfree => ?_⟩
              obtain rfl : c = 10 := by simpa using hc
              refine ⟨_, rfl, rfl, stepF_val (v := v2) (w' := Wb) (by go_simp) ?_⟩
              simp only [List.getElem_toArray, List.getElem_cons_zero, List.getElem_cons_succ, Act.put, List.setIfInBounds_toArray, List.set_cons_zero, List.set_cons_succ]
              refine wpF_end ?_
              obtain ⟨oN, cN, hv2, hcap⟩ := HR2.out.shape
              subst hv2
              have HLN := Lib.hid (restL_len hk)
              have HFIN := Lib.hid (show XR w Wb _ _ oN (outL E M (of ++ [x])) (toN (of ++ [x])) (toN (restL left k)) from XR.relay HX9.out HR2.out.below (Row.intsRest HR2.out HLN.out.1.symm) HR2.out.newBlock)
              have HPN := Lib.hid (restL_perm hk HXV.out HPM.out)
              have HCP := Lib.hid hcap
              clear hcap q1 q2 q3 q4 q5 q6 q7 q8 q9 q10 hA2 hk1
              go_wp2
              go_roundw
              case rel => exact ⟨oN, cN, of ++ [x], restL left k, by rw [HLN.out.1], by rw [HLN.out.1]; exact HCP.out, by rw [List.length_append]; exact congrArg (Value.int .i64) (by push_cast; exact (Int.add_assoc ..)), HFIN.out, HPN.out⟩
              case measure =>
                have := HLN.out.2
                rw [HLN.out.1] at this
                exact this
end
section
open Go.RowKit
attribute [local go_sem] Oper.semAt_some

/-- The k-th pair is that of the k-th entry with its exit. -/
structure PairI (l : List (Int × Int)) (of : List Nat) (k j : Nat) : Prop where
  e1 : (l.getD k (0, 0)).1 = (k : Int)
  e2 : (l.getD k (0, 0)).2 = (j : Int)
  jl : j < of.length
  val : (of.getD j 0) = k
structure PairN (k j n : Nat) : Prop where
  y1 : (0 : Int) ≤ (k : Int)
  y2 : (k : Int) < (n : Int)
  y3 : (0 : Int) ≤ (j : Int)
  y4 : (j : Int) < (n : Int)
  d1 : decide ((j : Int) < 0) = false
  d2 : decide ((n : Int) ≤ (j : Int)) = false
  d3 : decide (n ≤ j) = false
  ne : ((k : Int) != (k : Int)) = false
  next : k + 1 ≤ n
theorem pairN {k j n : Nat} (hk : k < n) (hj : j < n) : PairN k j n := ⟨by omega, by omega, by omega, by omega, decide_eq_false (by omega), decide_eq_false (by omega), decide_eq_false (by omega), by simp, by omega⟩
set_option maxRecDepth 100000 in
set_option maxHeartbeats 16000000 in
theorem paired_any (ol oo : Option Addr) (cl co : Nat) (l : List (Int × Int)) (of : List Nat) (w : World) (hl : Twos w ol l) (ho : Ints w oo (toN of)) (hlen : l.length = of.length) (h8 : of.length ≤ 8) (hp : ∀ k, k < of.length → ∃ j, PairI l of k j) :
    Calls Tryd.prog 21 #[.slice ol of.length cl, .slice oo of.length co] w (Ret (.bool true) w) := by
  have HL := Lib.hid hl
  have HO := Lib.hid ho
  have HP := Lib.hid hp
  have HN := Lib.hid hlen
  clear hl ho hp hlen
  go_enter Tryd.func21, Tryd.ntmps21
  have hnn : ((of.length : Int) != (of.length : Int)) = false := by simp
  go_wp2
  go_loopw [14] (fun i wr => ∃ k : Nat, k ≤ of.length ∧ i = .int .i64 k ∧ Below w.heap.size w wr) (fun i _ => of.length - (intOf i).toNat)
  case atStart => exact ⟨0, Nat.zero_le _, rfl, Below.refl _ _⟩
  case round =>
    obtain ⟨k, hk, rfl, hb⟩ := hrel
    have HB := Lib.hid hb
    clear hb
    by_cases hlt : k < of.length
    · obtain ⟨j, hpi⟩ := HP.out k hlt
      have HPI := Lib.hid hpi
      have HPN := Lib.hid (pairN hlt hpi.jl)
      obtain ⟨g, off, hgo, c0, c1⟩ := (HL.out.later HB.out) k (by rw [HN.out]; exact hlt)
      subst hgo
      rw [hpi.e1] at c0
      rw [hpi.e2] at c1
      clear hpi
      have HBX := Lib.hid (below_step HB.out (below_alloc (Below.refl wr.heap.size wr) (.cells #[.int .i64 (k : Int), .int .i64 (j : Int)] 48)))
      obtain ⟨g2, off2, hgo2, d0⟩ := (HO.out.later HBX.out) j (by rw [toN_len]; exact HPI.out.jl)
      subst hgo2
      rw [toN_get HPI.out.jl, HPI.out.val] at d0
      have y1 := HPN.out.y1
      have y2 := HPN.out.y2
      have y3 := HPN.out.y3
      have y4 := HPN.out.y4
      have d1 := HPN.out.d1
      have d2 := HPN.out.d2
      have d3 := HPN.out.d3
      have ne := HPN.out.ne
      go_wp2
      go_roundw
      case rel => exact ⟨k + 1, HPN.out.next, by go_num, HBX.out⟩
      case measure => simp [intOf]; omega
    · obtain rfl : k = of.length := by omega
      go_wp2
      go_ret
      exact ⟨rfl, HB.out⟩
end
section
open Go.ChangeShapes Go.WideShapes Go.ChangeAt Go.RowKit Go.Deep Go.Joins

section
variable {H : Type} {enc : TypeId × Value → H} {w : World}
/-- A parameter that is a slice of bytes. -/
theorem u8sP_of {r : Reach} {b0 : Nat} {v : Value} {d : DataW H} {p : List MemPlace} (hv : Value.okWide Tryd.prog w r b0 33 v) (h : DataW.Trod enc Tryd.prog w 0 (fun _ => true) true 33 v d p) (hw : ∀ x ∈ d.weights Tryd.prog 33, x ≤ reachBytes) :
    ∃ (o : Option Addr) (cap : Nat) (l : List Nat), v = .slice o l.length cap ∧ U8s w o l ∧ l.length ≤ 9000000000000000000 := by
  obtain ⟨a', len', cap', rfl⟩ := okWide_slice Tryd.underlying33 hv
  obtain ⟨n, hn⟩ := h
  have hn' : DataW.trod enc Tryd.prog w 0 (fun _ => true) true n 33 [.slice a' len' cap'] = some (d, p) := hn
  rcases open_slice Tryd.underlying33 hn' with ⟨h0, _⟩ | ⟨a, len, cap, m, n', D, Pl, hcs, _, hl, hm, hmm, hy, hx⟩
  · simp only [List.cons.injEq, and_true] at h0
    exact ⟨none, 0, [], h0, fun i hi => by simp at hi, by simp⟩
  · simp only [List.cons.injEq, and_true] at hcs
    have hlm : len ≤ m := by rw [hmm]; simp; exact hl
    have hC : Tryd.prog.cellsOf 5 = 1 := by kernel_rfl
    have hd : d = .slice ((List.range len).map D) ((List.range (m - len)).map fun j => D (len + j)) := congrArg Prod.fst hy
    have hx' : ∀ i, i < len → ∃ x : Nat, w.cell? (a.add (i * 1)) = some (.int .u8 (x : Int)) ∧ x < 256 := fun i hi => by
      obtain ⟨cs', h1, h2⟩ := hx i (by omega)
      rw [hC] at h1
      obtain ⟨_, hlen, hcell⟩ := World.cells?_some h1
      obtain ⟨c0, rfl⟩ : ∃ c, cs' = [c] := by
        match cs', hlen with
        | [c], _ => exact ⟨c, rfl⟩
      obtain ⟨x0, rfl, hwf⟩ := fld_int Tryd.underlying5 h2
      have hb := bounds_u8 hwf
      refine ⟨x0.toNat, ?_, by omega⟩
      have := hcell 0 (by omega)
      rw [add_add] at this
      rw [show ((x0.toNat : Nat) : Int) = x0 by omega]
      simpa using this
    obtain ⟨f, hf⟩ := choose_lt hx'
    refine ⟨some a, cap, (List.range len).map f, by rw [hcs]; simp, fun i hi => ?_, ?_⟩
    · have hi' : i < len := by simpa using hi
      obtain ⟨b, off, spot⟩ := a
      have hspot : spot = none := by simpa [Addr.add] using World.cell?_spot (hf 0 (by omega)).1
      subst hspot
      refine ⟨b, off, rfl, ?_⟩
      have e : ((List.range len).map f).getD i 0 = f i := by simp [hi']
      rw [e]
      obtain ⟨h0, h1⟩ := hf i hi'
      simp only [Addr.add_lit, Nat.mul_one] at h0
      exact ⟨h0, h1⟩
    · have hb : Tryd.prog.bytesOf 5 = 1 := by kernel_rfl
      rw [hd] at hw
      have := hw ((((List.range len).map D).length + ((List.range (m - len)).map fun j => D (len + j)).length) * Tryd.prog.bytesOf 5) (by
        rw [DataW.weights, Tryd.underlying33]
        exact List.mem_cons_self ..)
      rw [hb] at this
      simp [reachBytes] at this ⊢
      omega
end
end
end Go.Proofs.YtmcodendnpjlaaaDoor
