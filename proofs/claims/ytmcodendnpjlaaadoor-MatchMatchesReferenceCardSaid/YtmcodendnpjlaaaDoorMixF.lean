/- A rule for regions that draw their order: operations that leave the world as it is, at whatever time, beside a few acting ones in any order that their edges leave. No statement about the program. -/
import Derived.Test.YtmcodendnpjlaaaDoorMix
namespace Go.Proofs.YtmcodendnpjlaaaDoor
open Go.RowKit

section
variable {P : Program} {ops : Array Oper} {J : World → Prop} {Q : Exit → Act → World → Prop}

/-- No operation of rest must come before c. -/
def freeC (ops : Array Oper) (rest : List Nat) (c : Nat) : Bool := rest.all fun d => !Region.waitsFor .any ops c d
/-- The acting operations, by their numbers, in any order; J holds ahead of each. -/
def wpF (P : Program) (ops : Array Oper) (J : World → Prop) (Q : Exit → Act → World → Prop) : Nat → List Nat → Act → World → Prop
  | 0, _, V, w => Q .normal V w
  | n + 1, rest, V, w => J w ∧ ∀ c ∈ rest, freeC ops rest c = true → ∃ o, ops[c]? = some o ∧ o.guard = none ∧ StepC P o V (wpF P ops J Q n (rest.erase c)) ((execOp V.eval o).run P w)

/-- What the table must be; C: the chain's numbers. -/
def mixOkF (ops : Array Oper) (C : List Nat) : Bool :=
  Region.noSelect ops && decide C.Nodup && C.all (fun c => decide (c < ops.size)) && !C.isEmpty &&
  (List.range ops.size).all fun i => match ops[i]? with
    | none => true
    | some oi =>
      (oi.after.all fun e => !Region.binds .any e || decide (e.on < i)) &&
      (C.contains i || (List.range ops.size).any fun k => Region.waitsFor .any ops k i) &&
      (List.range ops.size).all fun j => match ops[j]? with
        | none => true
        | some oj => match oj.dst with
          | none => true
          | some d =>
            if C.contains i then C.contains j || (oi.dst != some d && (!(oi.looksAt ops).contains d || Region.waitsFor .any ops i j))
            else (decide (i = j) || oi.dst != some d) && (!(oi.looksAt ops).contains d || (!C.contains j && decide (j < i) && Region.waitsFor .any ops i j))

structure MixFactsF (ops : Array Oper) (C : List Nat) : Prop where
  sel : ∀ o ∈ ops.toList, ∀ cs b, o.op ≠ .select cs b
  nodup : C.Nodup
  lt : ∀ c ∈ C, c < ops.size
  ne : C ≠ []
  back : ∀ (i : Nat) (oi : Oper), ops[i]? = some oi → ∀ e ∈ oi.after, Region.binds .any e = true → e.on < i
  waiter : ∀ (i : Nat), i < ops.size → i ∉ C → ∃ k, k < ops.size ∧ Region.waitsFor .any ops k i = true
  chain : ∀ (i : Nat) (oi : Oper) (j : Nat) (oj : Oper) (d : Tmp), ops[i]? = some oi → ops[j]? = some oj → i ∈ C → j ∉ C → oj.dst = some d → oi.dst ≠ some d ∧ (d ∈ oi.looksAt ops → Region.waitsFor .any ops i j = true)
  pure : ∀ (i : Nat) (oi : Oper) (j : Nat) (oj : Oper) (d : Tmp), ops[i]? = some oi → ops[j]? = some oj → i ∉ C → oj.dst = some d → (i ≠ j → oi.dst ≠ some d) ∧ (d ∈ oi.looksAt ops → j ∉ C ∧ j < i ∧ Region.waitsFor .any ops i j = true)

theorem mixOkF_spec {C : List Nat} (h : mixOkF ops C = true) : MixFactsF ops C := by
  unfold mixOkF at h
  simp only [Bool.and_eq_true, decide_eq_true_eq, List.all_eq_true, Bool.not_eq_true', List.isEmpty_eq_false_iff] at h
  obtain ⟨⟨⟨⟨h1, h2⟩, h4⟩, h5⟩, h6⟩ := h
  have hi6 : ∀ (i : Nat) (oi : Oper), ops[i]? = some oi → _ := fun i oi hi => by
    have := h6 i (List.mem_range.2 (Array.getElem?_eq_some_iff.1 hi).1)
    simp only [hi, Bool.and_eq_true, Bool.or_eq_true, List.all_eq_true] at this
    exact this
  have hij : ∀ (i : Nat) (oi : Oper) (j : Nat) (oj : Oper) (d : Tmp), ops[i]? = some oi → ops[j]? = some oj → oj.dst = some d → _ := fun i oi j oj d hi hj hd => by
    have := (hi6 i oi hi).2 j (List.mem_range.2 (Array.getElem?_eq_some_iff.1 hj).1)
    simp only [hj, hd] at this
    exact this
  refine ⟨fun o ho cs b => ?_, h2, h4, h5, fun i oi hi e he hbd => ?_, fun i hi hC => ?_, fun i oi j oj d hi hj hC hjC hd => ?_, fun i oi j oj d hi hj hC hd => ?_⟩
  · obtain ⟨k, hk⟩ := List.getElem?_of_mem ho
    exact Region.noSelect_spec h1 k o cs b (by simpa using hk)
  · have := (Array.all_eq_true_iff_forall_mem.1 (hi6 i oi hi).1.1) e he
    simpa [hbd] using this
  · have hoi : ops[i]? = some ops[i] := by simp [hi]
    have := (hi6 i _ hoi).1.2.resolve_left (by simpa using hC)
    rw [List.any_eq_true] at this
    obtain ⟨k, hk, hw⟩ := this
    exact ⟨k, List.mem_range.1 hk, hw⟩
  · have := hij i oi j oj d hi hj hd
    rw [if_pos (by simpa using hC)] at this
    simp only [Bool.or_eq_true, List.contains_eq_mem, decide_eq_true_eq, Bool.and_eq_true, bne_iff_ne, Bool.not_eq_true', decide_eq_false_iff_not] at this
    have h7 := this.resolve_left hjC
    exact ⟨h7.1, fun hl => h7.2.resolve_left (fun hn => hn hl)⟩
  · have := hij i oi j oj d hi hj hd
    rw [if_neg (by simpa using hC)] at this
    simp only [Bool.or_eq_true, List.contains_eq_mem, decide_eq_true_eq, Bool.and_eq_true, bne_iff_ne, Bool.not_eq_true', decide_eq_false_iff_not] at this
    exact ⟨fun hne => this.1.resolve_left hne, fun hl => by
      have h7 := this.2.resolve_left (fun hn => hn hl)
      exact ⟨h7.1.1, h7.1.2, h7.2⟩⟩

/-- How far the region has come: rest: the acting operations that have not been run. -/
structure MixStF (P : Program) (ops : Array Oper) (C : List Nat) (J : World → Prop) (rest : List Nat) (V : Act) (listed : Array Bool) (a : Act) : Prop where
  sub : ∀ c ∈ rest, c ∈ C
  nd : rest.Nodup
  size : listed.size = ops.size
  dn : ∀ c ∈ C, c ∉ rest → listed.getD c true = true
  un : ∀ c ∈ rest, listed.getD c true = false
  closed : ∀ (j : Nat) (oj : Oper), ops[j]? = some oj → listed.getD j true = true → ∀ e ∈ oj.after, Region.binds .any e = true → listed.getD e.on false = true
  dfs : a.defers = V.defers
  sz : a.tmps.size = V.tmps.size
  agree : ∀ t, (∀ j oj, j ∉ C → ops[j]? = some oj → listed.getD j true = false → oj.dst ≠ some t) → a.tmps[t]? = V.tmps[t]?
  settled : ∀ i o, i ∉ C → ops[i]? = some o → SettledP P ops J o V

theorem SettledP.afterF {C : List Nat} (hM : MixFactsF ops C) {i : Nat} {o : Oper} (hi : i ∉ C) (ho : ops[i]? = some o) {c : Nat} {oc : Oper} (hc : c ∈ C) (hoc : ops[c]? = some oc) {V : Act} (h : SettledP P ops J o V) (v : Value) : SettledP P ops J o (V.put oc.dst v) := by
  have hl : ∀ t ∈ o.looksAt ops, (V.put oc.dst v).tmps[t]? = V.tmps[t]? := fun t ht => put_get_ne (fun hd => ((hM.pure i o c oc t ho hoc hi hd).2 ht).1 hc)
  have he := exec_of_agree (ops := ops) (hM.sel o (by have := Array.mem_of_getElem? ho; simpa using this)) hl
  have hwn := wanted_of_agree (ops := ops) hl
  have hput : ∀ u, V.put o.dst u = V → (V.put oc.dst v).put o.dst u = V.put oc.dst v := by
    intro u hu
    refine put_self (a := V.put oc.dst v) (fun d hd => ?_) rfl
    have h1 : (V.put oc.dst v).tmps[d]? = V.tmps[d]? := put_get_ne (fun hd' => (hM.pure i o c oc d ho hoc hi hd').1 (fun e => hi (e ▸ hc)) hd)
    have h2 : (V.put o.dst u).tmps[d]? = V.tmps[d]? := by rw [hu]
    rw [hd] at h2 ⊢
    rw [h1]
    by_cases hlt : d < V.tmps.size
    · have hlt' : d < (V.put oc.dst v).tmps.size := by rw [put_size]; exact hlt
      simp only [Act.put, Array.getElem?_setIfInBounds, if_pos hlt, if_true] at h2
      have e2 : ((V.put oc.dst v).put (some d) u).tmps[d]? = some u := by
        show ((V.put oc.dst v).tmps.setIfInBounds d u)[d]? = _
        simp [hlt']
      rw [e2, h2]
    · have hlt' : ¬ d < (V.put oc.dst v).tmps.size := by rw [put_size]; exact hlt
      have e2 : ((V.put oc.dst v).put (some d) u).tmps[d]? = none := by
        show ((V.put oc.dst v).tmps.setIfInBounds d u)[d]? = _
        simp [hlt']
      rw [e2]
      exact Array.getElem?_eq_none (Nat.le_of_not_lt hlt)
  refine ⟨fun hw => ?_, fun hw => ?_⟩
  · rw [hwn] at hw
    obtain ⟨u, h1, h2⟩ := h.1 hw
    exact ⟨u, fun w hJ => by rw [he]; exact h1 w hJ, hput u h2⟩
  · rw [hwn] at hw
    exact hput undef (h.2 hw)

theorem mixF_step {C : List Nat} (hM : MixFactsF ops C) : ∀ (m : Nat) (rest : List Nat) (V : Act) (listed : Array Bool) (a : Act) (w : World), unl ops.size listed = m → MixStF P ops C J rest V listed a → wpF P ops J Q rest.length rest V w → wpAny P .any ops Q m listed a w := by
  intro m
  induction m with
  | zero =>
    intro rest V listed a w hm hS hC
    have hall : ∀ i, i < ops.size → listed.getD i true = true := by
      intro i hi
      unfold unl at hm
      rw [List.countP_eq_zero] at hm
      have := hm i (List.mem_range.2 hi)
      simpa using this
    have hr : rest = [] := by
      cases rest with
      | nil => rfl
      | cons c r =>
        have h1 := hS.un c (List.mem_cons_self ..)
        rw [hall c (hM.lt c (hS.sub c (List.mem_cons_self ..)))] at h1
        cases h1
    subst hr
    have ha : a = V := by
      have h1 : a.tmps = V.tmps := by
        apply Array.ext_getElem?
        intro t
        refine hS.agree t (fun j oj _ hoj hun => ?_)
        rw [hall j (Array.getElem?_eq_some_iff.1 hoj).1] at hun; cases hun
      have h2 := hS.dfs
      cases a; cases V; simp_all
    subst ha
    refine ⟨?_, hC⟩
    rw [List.eq_nil_iff_forall_not_mem]
    intro i hi
    obtain ⟨hun, oi, hoi, _⟩ := mem_ready.1 hi
    rw [hall i (Array.getElem?_eq_some_iff.1 hoi).1] at hun
    cases hun
  | succ m ih =>
    intro rest V listed a w hm hS hC
    have hex : ∃ i, i < ops.size ∧ listed.getD i true = false := by
      have : 0 < unl ops.size listed := by omega
      unfold unl at this
      rw [List.countP_pos_iff] at this
      obtain ⟨i, hi, h⟩ := this
      exact ⟨i, List.mem_range.1 hi, by simpa using h⟩
    have hsmall : ∀ k i, i ≤ k → i < ops.size → listed.getD i true = false → ∃ j, j ∈ Region.ready .any ops listed := by
      intro k
      induction k with
      | zero =>
        intro i hi hlt hun
        refine ⟨i, mem_ready.2 ⟨hun, ops[i], by simp [hlt], fun e he hbd => ?_⟩⟩
        have := hM.back i ops[i] (by simp [hlt]) e he hbd
        omega
      | succ k ihk =>
        intro i hi hlt hun
        by_cases hex2 : ∃ e ∈ (ops[i]).after, Region.binds .any e = true ∧ listed.getD e.on false = false
        · obtain ⟨e, he, hbd, hf⟩ := hex2
          have hlt2 := hM.back i ops[i] (by simp [hlt]) e he hbd
          exact ihk e.on (by omega) (by omega) (getD_in (by rw [hS.size]; omega) hf)
        · refine ⟨i, mem_ready.2 ⟨hun, ops[i], by simp [hlt], fun e he hbd => ?_⟩⟩
          cases hf : listed.getD e.on false with
          | true => rfl
          | false => exact absurd ⟨e, he, hbd, hf⟩ hex2
    -- an operation beside the chain that has not been run: the chain is not at its end
    have hleft : ∀ d i, ops.size - i ≤ d → i < ops.size → listed.getD i true = false → ∃ c, c ∈ rest := by
      intro d
      induction d with
      | zero => intro i hi hlt _; omega
      | succ d ihd =>
        intro i hi hlt hun
        by_cases hiC : i ∈ C
        · by_cases h : i ∈ rest
          · exact ⟨i, h⟩
          · rw [hS.dn i hiC h] at hun; cases hun
        · obtain ⟨k, hk, hwf⟩ := hM.waiter i hlt hiC
          have hok : ops[k]? = some ops[k] := by simp [hk]
          have hik : i < k := by
            obtain ⟨o', ho', e, he, hb, hon⟩ := Region.waitsFor_spec hwf
            have := hM.back k o' ho' e he hb
            omega
          have hku : listed.getD k true = false := by
            cases hf : listed.getD k true with
            | false => rfl
            | true =>
              have := waits_listed hwf hok (hS.closed k _ hok hf)
              rw [getD_both hun] at this
              cases this
          exact ihd k (by omega) hk hku
    obtain ⟨i0, hi0, hun0⟩ := hex
    obtain ⟨j0, hj0⟩ := hsmall i0 i0 (Nat.le_refl _) hi0 hun0
    obtain ⟨c0, hc0⟩ := hleft _ i0 (Nat.le_refl _) hi0 hun0
    refine ⟨fun h => (by rw [h] at hj0; cases hj0), fun i hi => ?_⟩
    obtain ⟨hiun, oi, hoi, hall⟩ := mem_ready.1 hi
    have hilt := (Array.getElem?_eq_some_iff.1 hoi).1
    have hun' : unl ops.size (listed.setIfInBounds i true) = m := by
      have := unl_set hilt hiun
      omega
    have hJw : J w := by
      cases rest with
      | nil => cases hc0
      | cons c r => exact hC.1
    have hag : ∀ t ∈ oi.looksAt ops, a.tmps[t]? = V.tmps[t]? := by
      intro t ht
      refine hS.agree t (fun j oj hj hoj hun hd => ?_)
      have hwf : Region.waitsFor .any ops i j = true := by
        by_cases hiC : i ∈ C
        · exact (hM.chain i oi j oj t hoi hoj hiC hj hd).2 ht
        · exact ((hM.pure i oi j oj t hoi hoj hiC hd).2 ht).2.2
      have h3 := waits_listed hwf hoi hall
      rw [getD_both hun] at h3
      cases h3
    have he := exec_of_agree (ops := ops) (hM.sel oi (by
      have := Array.mem_of_getElem? hoi
      simpa using this)) hag
    have hwn := wanted_of_agree (ops := ops) hag
    have hclosed : ∀ (j : Nat) (oj : Oper), ops[j]? = some oj → (listed.setIfInBounds i true).getD j true = true → ∀ e ∈ oj.after, Region.binds .any e = true → (listed.setIfInBounds i true).getD e.on false = true := by
      intro j oj hoj hl e he' hb
      have hset : ∀ k, listed.getD k false = true → (listed.setIfInBounds i true).getD k false = true := fun k hk => by
        by_cases hki : k = i
        · subst hki
          have : k < listed.size := by rw [hS.size]; exact hilt
          simp [this]
        · rw [getD_set_ne false (Ne.symm hki)]; exact hk
      by_cases hji : j = i
      · subst hji
        have : oj = oi := Option.some.inj (hoj.symm.trans hoi)
        subst this
        exact hset _ (hall e he' hb)
      · rw [getD_set_ne true (Ne.symm hji)] at hl
        exact hset _ (hS.closed j oj hoj hl e he' hb)
    unfold wpOp
    simp only [hoi]
    by_cases hiC : i ∈ C
    · -- the chain's next operation
      have hir : i ∈ rest := by
        by_cases h : i ∈ rest
        · exact h
        · rw [hS.dn i hiC h] at hiun; cases hiun
      have hfree : freeC ops rest i = true := by
        unfold freeC
        rw [List.all_eq_true]
        intro d hd
        cases hwf : Region.waitsFor .any ops i d with
        | false => rfl
        | true =>
          have := waits_listed hwf hoi hall
          rw [getD_both (hS.un d hd)] at this
          cases this
      obtain ⟨k, hk⟩ : ∃ k, rest.length = k + 1 := ⟨rest.length - 1, by have := List.length_pos_of_mem hir; omega⟩
      rw [hk] at hC
      obtain ⟨o', ho', hgd, hstep⟩ := hC.2 i hir hfree
      have hkl : k = (rest.erase i).length := by rw [List.length_erase_of_mem hir, hk]; rfl
      rw [hkl] at hstep
      have : o' = oi := Option.some.inj (ho'.symm.trans hoi)
      subst this
      · skip
        have hw : Region.wanted o' (yielded ops a.tmps) = true := by simp [Region.wanted, hgd]
        rw [if_pos hw]
        refine .inl ?_
        have hnext : ∀ v, MixStF P ops C J (rest.erase i) (V.put o'.dst v) (listed.setIfInBounds i true) (a.put o'.dst v) := by
          intro v
          refine ⟨fun c hc => hS.sub c (List.mem_of_mem_erase hc), hS.nd.erase i, by simpa using hS.size, ?_, ?_, hclosed, by rw [put_defers', put_defers']; exact hS.dfs, by rw [put_size, put_size]; exact hS.sz, ?_, fun i' o hi' ho => (hS.settled i' o hi' ho).afterF hM hi' ho hiC hoi v⟩
          · intro k hk hkr
            by_cases hkc : k = i
            · subst hkc
              have : k < listed.size := by rw [hS.size]; exact hilt
              simp [this]
            · rw [getD_set_ne true (Ne.symm hkc)]
              exact hS.dn k hk (fun h => hkr ((List.mem_erase_of_ne hkc).2 h))
          · intro k hk
            have hkc : k ≠ i := fun e => (hS.nd.mem_erase_iff.1 hk).1 e
            rw [getD_set_ne true (Ne.symm hkc)]
            exact hS.un k (List.mem_of_mem_erase hk)
          · intro t ht
            by_cases hd : o'.dst = some t
            · rw [hd]
              by_cases hlt : t < a.tmps.size
              · have hlt' : t < V.tmps.size := by rw [← hS.sz]; exact hlt
                simp [Act.put, hlt, hlt']
              · have hlt' : ¬ t < V.tmps.size := by rw [← hS.sz]; exact hlt
                simp [Act.put, hlt, hlt']
            · rw [put_get_ne hd, put_get_ne hd]
              refine hS.agree t (fun j oj hj hoj hun => ?_)
              exact ht j oj hj hoj (by rw [getD_set_ne true (fun e : i = j => hj (by rw [← e]; exact hiC))]; exact hun)
        unfold Oper.wp
        rw [he]
        generalize (execOp V.eval o').run P w = r' at hstep
        cases r' with
        | halt x w' => exact hstep.elim
        | ok nx w' =>
          cases nx <;> simp only [StepC] at hstep <;> simp only [Oper.upon]
          case value u => exact ih _ _ _ _ _ hun' (hnext u) hstep
          case skip => exact ih _ _ _ _ _ hun' (hnext undef) hstep
          case enter f args =>
            refine Calls.mono hstep (fun e w'' hh => ?_)
            obtain ⟨v, rfl, hk⟩ := hh
            exact ih _ _ _ _ _ hun' (hnext v) hk
    · -- beside the chain
      have hU' : ∀ v, V.put oi.dst v = V → MixStF P ops C J rest V (listed.setIfInBounds i true) (a.put oi.dst v) := by
        intro v hv
        refine ⟨hS.sub, hS.nd, by simpa using hS.size, ?_, ?_, hclosed, by rw [put_defers']; exact hS.dfs, by rw [put_size]; exact hS.sz, ?_, hS.settled⟩
        · intro k hk hkr
          have : k ≠ i := fun e => hiC (by rw [← e]; exact hk)
          rw [getD_set_ne true (Ne.symm this)]
          exact hS.dn k hk hkr
        · intro k hk
          have : k ≠ i := fun e => hiC (by rw [← e]; exact hS.sub k hk)
          rw [getD_set_ne true (Ne.symm this)]
          exact hS.un k hk
        · intro t ht
          by_cases hd : oi.dst = some t
          · rw [← hv, hd]
            by_cases hlt : t < a.tmps.size
            · have hlt' : t < V.tmps.size := by rw [← hS.sz]; exact hlt
              simp [Act.put, hlt, hlt']
            · have hlt' : ¬ t < V.tmps.size := by rw [← hS.sz]; exact hlt
              simp [Act.put, hlt, hlt']
          · rw [put_get_ne hd]
            refine hS.agree t (fun j oj hj hoj hun hdj => ?_)
            by_cases hji : j = i
            · subst hji
              have : oj = oi := Option.some.inj (hoj.symm.trans hoi)
              subst this
              exact hd hdj
            · exact ht j oj hj hoj (by rw [getD_set_ne true (Ne.symm hji)]; exact hun) hdj
      have hSt := hS.settled i oi hiC hoi
      by_cases hw : Region.wanted oi (yielded ops V.tmps) = true
      · obtain ⟨v, hy, hv⟩ := hSt.1 hw
        rw [hwn, if_pos hw]
        refine .inl ?_
        unfold Oper.wp
        rw [he, hy w hJw]
        exact ih _ _ _ _ _ hun' (hU' v hv) hC
      · have hw' : Region.wanted oi (yielded ops V.tmps) = false := by simpa using hw
        rw [hwn, if_neg hw]
        exact ih _ _ _ _ _ hun' (hU' _ (hSt.2 hw')) hC

/-- THE RULE. -/
theorem wp_region_mixF {l : List Oper} {id : Nat} {a : Act} {w : World} (C : List Nat) (J : World → Prop) (hm : P.follows .mixedOrders = true) (hB : mixOkF l.toArray C = true)
    (h' : ∀ R : Act → Prop, (∀ A, wpF P l.toArray J Q C.length C A w.drew → R A) → wpM P l.toArray J R (beside C l 0) a) : (Code.region id l.toArray true).wp P Q a w := by
  have h := h' (fun A => wpF P l.toArray J Q C.length C A w.drew) (fun _ h => h)
  have hM := mixOkF_spec hB
  have hget : ∀ o ∈ beside C l 0, ∃ i, i ∉ C ∧ l[i]? = some o := fun o ho => by
    obtain ⟨i, h1, h2⟩ := beside_mem.1 ho
    exact ⟨i, by simpa using h2, h1⟩
  obtain ⟨A, hRA, hsz, hdf, hA, hset⟩ := wpM_settles (P := P) (J := J) (ops := l.toArray) hM.sel (beside C l 0) (fun o ho => by
      obtain ⟨i, _, h1⟩ := hget o ho
      have := List.mem_of_getElem? h1
      simpa using this)
    (by
      refine (beside_pair (C := C) (S := fun i oi j oj => ∀ d, oj.dst = some d → oi.dst ≠ some d ∧ d ∉ oi.looksAt l.toArray) (fun i j oi oj hi hj hij h1 h2 d hd => ?_)).imp (fun ⟨_, _, h⟩ => h)
      have := hM.pure (0 + i) oi (0 + j) oj d (by simpa using hi) (by simpa using hj) h1 hd
      exact ⟨this.1 (by omega), fun hl => by have := (this.2 hl).2.1; omega⟩)
    (fun o ho d hd hl => by
      obtain ⟨i, hiC, hio⟩ := hget o ho
      have := ((hM.pure i o i o d (by simpa using hio) (by simpa using hio) hiC hd).2 hl).2.1
      omega) a h
  refine wp_region_any hm ?_
  have hun : unl l.toArray.size (Array.replicate l.toArray.size false) = l.toArray.size := unl_none _ _ (Nat.le_refl _)
  refine mixF_step hM l.toArray.size C A (Array.replicate l.toArray.size false) a w.drew hun ⟨fun c hc => hc, hM.nodup, by simp, fun c hc hn => absurd hc hn, fun c hc => getD_in (by simpa using hM.lt c hc) (getD_replicate_false _ _), fun j oj _ hl => ?_, hdf.symm, hsz.symm, fun t ht => (hA t (fun o ho hd => ?_)).symm, fun i o hi ho => hset o (beside_mem.2 ⟨i, by simpa using ho, by simpa using hi⟩)⟩ hRA
  · rename_i hoj
    have : j < l.toArray.size := (Array.getElem?_eq_some_iff.1 hoj).1
    have h2 : j < l.length := by simpa using this
    simp [h2] at hl
  · obtain ⟨i, hi, hio⟩ := hget o ho
    have hlt : i < l.length := (List.getElem?_eq_some_iff.1 hio).1
    exact ht i o hi (by simpa using hio) (by simp [hlt]) hd
end

/-- THE RULE, the chain's numbers by a mask too. -/
theorem wp_region_maskF {P : Program} {Q : Exit → Act → World → Prop} {l : List Oper} {id : Nat} {a : Act} {w : World} (C : List Nat) (mask : List Bool) (J : World → Prop) (hm : P.follows .mixedOrders = true) (hB : (mixOkF l.toArray C && mask == maskOf C l.length 0) = true)
    (h' : ∀ R : Act → Prop, (∀ A, wpF P l.toArray J Q C.length C A w.drew → R A) → wpM P l.toArray J R (marked mask l) a) : (Code.region id l.toArray true).wp P Q a w := by
  simp only [Bool.and_eq_true, beq_iff_eq] at hB
  refine wp_region_mixF C J hm hB.1 (fun R hR => ?_)
  have := h' R hR
  rw [hB.2, marked_eq] at this
  exact this

end Go.Proofs.YtmcodendnpjlaaaDoor
