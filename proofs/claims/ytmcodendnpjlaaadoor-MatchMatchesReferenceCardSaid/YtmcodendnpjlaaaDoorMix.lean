/- A fourth rule for regions that draw their order: operations that leave the world as it is, at whatever time, beside a chain of others in a forced order. No statement about the program. -/
import Derived.Test.YtmcodendnpjlaaaDoorKitB
namespace Go.Proofs.YtmcodendnpjlaaaDoor
open Go.RowKit

section
variable {P : Program} {ops : Array Oper} {J : World → Prop} {Q : Exit → Act → World → Prop}

/-- One operation of the chain: it comes to a value, or its call returns. -/
def StepC (P : Program) (o : Oper) (V : Act) (K : Act → World → Prop) : Result Next → Prop
  | .ok (.value v) w' => K (V.put o.dst v) w'
  | .ok .skip w' => K (V.put o.dst undef) w'
  | .ok (.enter f args) w' => Calls P f args w' (fun e w'' => ∃ v, e = .returned v ∧ K (V.put o.dst v) w'')
  | _ => False

/-- The chain, by the operations' numbers; J holds ahead of each. -/
def wpC (P : Program) (ops : Array Oper) (J : World → Prop) (Q : Exit → Act → World → Prop) : List Nat → Act → World → Prop
  | [], V, w => Q .normal V w
  | i :: rest, V, w => J w ∧ ∃ o, ops[i]? = some o ∧ o.guard = none ∧ StepC P o V (wpC P ops J Q rest) ((execOp V.eval o).run P w)

/-- An operation beside the chain: at the frame V it comes to what V holds, in every world that meets J, which it leaves as it is. -/
def SettledP (P : Program) (ops : Array Oper) (J : World → Prop) (o : Oper) (V : Act) : Prop :=
  (Region.wanted o (yielded ops V.tmps) = true → ∃ v, (∀ w, J w → (execOp V.eval o).run P w = .ok (.value v) w) ∧ V.put o.dst v = V) ∧
  (Region.wanted o (yielded ops V.tmps) = false → V.put o.dst undef = V)

def consec (ops : Array Oper) : List Nat → Bool
  | [] => true
  | [_] => true
  | a :: b :: r => Region.waitsFor .any ops b a && consec ops (b :: r)

/-- What the table must be; C: the chain's numbers. -/
def mixOk (ops : Array Oper) (C : List Nat) : Bool :=
  Region.noSelect ops && decide C.Nodup && consec ops C && C.all (fun c => decide (c < ops.size)) && !C.isEmpty &&
  (List.range ops.size).all fun i => match ops[i]? with
    | none => true
    | some oi =>
      (oi.after.all fun e => !Region.binds .any e || decide (e.on < i)) &&
      (C.contains i || (List.range ops.size).any fun k => Region.waitsFor .any ops k i) &&
      (List.range ops.size).all fun j => match ops[j]? with
        | none => true
        | some oj => match oj.dst with
          | none => true
          | some d =>
            if C.contains i then C.contains j || (oi.dst != some d && (!(oi.looksAt ops).contains d || Region.waitsFor .any ops i j))
            else (decide (i = j) || oi.dst != some d) && (!(oi.looksAt ops).contains d || (!C.contains j && decide (j < i) && Region.waitsFor .any ops i j))

structure MixFacts (ops : Array Oper) (C : List Nat) : Prop where
  sel : ∀ o ∈ ops.toList, ∀ cs b, o.op ≠ .select cs b
  nodup : C.Nodup
  cons : consec ops C = true
  lt : ∀ c ∈ C, c < ops.size
  ne : C ≠ []
  back : ∀ (i : Nat) (oi : Oper), ops[i]? = some oi → ∀ e ∈ oi.after, Region.binds .any e = true → e.on < i
  waiter : ∀ (i : Nat), i < ops.size → i ∉ C → ∃ k, k < ops.size ∧ Region.waitsFor .any ops k i = true
  chain : ∀ (i : Nat) (oi : Oper) (j : Nat) (oj : Oper) (d : Tmp), ops[i]? = some oi → ops[j]? = some oj → i ∈ C → j ∉ C → oj.dst = some d → oi.dst ≠ some d ∧ (d ∈ oi.looksAt ops → Region.waitsFor .any ops i j = true)
  pure : ∀ (i : Nat) (oi : Oper) (j : Nat) (oj : Oper) (d : Tmp), ops[i]? = some oi → ops[j]? = some oj → i ∉ C → oj.dst = some d → (i ≠ j → oi.dst ≠ some d) ∧ (d ∈ oi.looksAt ops → j ∉ C ∧ j < i ∧ Region.waitsFor .any ops i j = true)

theorem mixOk_spec {C : List Nat} (h : mixOk ops C = true) : MixFacts ops C := by
  unfold mixOk at h
  simp only [Bool.and_eq_true, decide_eq_true_eq, List.all_eq_true, Bool.not_eq_true', List.isEmpty_eq_false_iff] at h
  obtain ⟨⟨⟨⟨⟨h1, h2⟩, h3⟩, h4⟩, h5⟩, h6⟩ := h
  have hi6 : ∀ (i : Nat) (oi : Oper), ops[i]? = some oi → _ := fun i oi hi => by
    have := h6 i (List.mem_range.2 (Array.getElem?_eq_some_iff.1 hi).1)
    simp only [hi, Bool.and_eq_true, Bool.or_eq_true, List.all_eq_true] at this
    exact this
  have hij : ∀ (i : Nat) (oi : Oper) (j : Nat) (oj : Oper) (d : Tmp), ops[i]? = some oi → ops[j]? = some oj → oj.dst = some d → _ := fun i oi j oj d hi hj hd => by
    have := (hi6 i oi hi).2 j (List.mem_range.2 (Array.getElem?_eq_some_iff.1 hj).1)
    simp only [hj, hd] at this
    exact this
  refine ⟨fun o ho cs b => ?_, h2, h3, h4, h5, fun i oi hi e he hbd => ?_, fun i hi hC => ?_, fun i oi j oj d hi hj hC hjC hd => ?_, fun i oi j oj d hi hj hC hd => ?_⟩
  · obtain ⟨k, hk⟩ := List.getElem?_of_mem ho
    exact Region.noSelect_spec h1 k o cs b (by simpa using hk)
  · have := (Array.all_eq_true_iff_forall_mem.1 (hi6 i oi hi).1.1) e he
    simpa [hbd] using this
  · have hoi : ops[i]? = some ops[i] := by simp [hi]
    have := (hi6 i _ hoi).1.2.resolve_left (by simpa using hC)
    rw [List.any_eq_true] at this
    obtain ⟨k, hk, hw⟩ := this
    exact ⟨k, List.mem_range.1 hk, hw⟩
  · have := hij i oi j oj d hi hj hd
    rw [if_pos (by simpa using hC)] at this
    simp only [Bool.or_eq_true, List.contains_eq_mem, decide_eq_true_eq, Bool.and_eq_true, bne_iff_ne, Bool.not_eq_true', decide_eq_false_iff_not] at this
    have h7 := this.resolve_left hjC
    exact ⟨h7.1, fun hl => h7.2.resolve_left (fun hn => hn hl)⟩
  · have := hij i oi j oj d hi hj hd
    rw [if_neg (by simpa using hC)] at this
    simp only [Bool.or_eq_true, List.contains_eq_mem, decide_eq_true_eq, Bool.and_eq_true, bne_iff_ne, Bool.not_eq_true', decide_eq_false_iff_not] at this
    exact ⟨fun hne => this.1.resolve_left hne, fun hl => by
      have h7 := this.2.resolve_left (fun hn => hn hl)
      exact ⟨h7.1.1, h7.1.2, h7.2⟩⟩

/-- How far the region has come: done: the chain's operations that have been run. -/
structure MixSt (P : Program) (ops : Array Oper) (C : List Nat) (J : World → Prop) (done rest : List Nat) (V : Act) (listed : Array Bool) (a : Act) : Prop where
  split : C = done ++ rest
  size : listed.size = ops.size
  dn : ∀ c ∈ done, listed.getD c true = true
  un : ∀ c ∈ rest, listed.getD c true = false
  closed : ∀ (j : Nat) (oj : Oper), ops[j]? = some oj → listed.getD j true = true → ∀ e ∈ oj.after, Region.binds .any e = true → listed.getD e.on false = true
  dfs : a.defers = V.defers
  sz : a.tmps.size = V.tmps.size
  agree : ∀ t, (∀ j oj, j ∉ C → ops[j]? = some oj → listed.getD j true = false → oj.dst ≠ some t) → a.tmps[t]? = V.tmps[t]?
  settled : ∀ i o, i ∉ C → ops[i]? = some o → SettledP P ops J o V

theorem waits_listed {i j : Nat} (hwf : Region.waitsFor .any ops i j = true) {listed : Array Bool} {oi : Oper} (hoi : ops[i]? = some oi) (hall : ∀ e ∈ oi.after, Region.binds .any e = true → listed.getD e.on false = true) : listed.getD j false = true := by
  obtain ⟨o', ho', e, he, hb, hon⟩ := Region.waitsFor_spec hwf
  have : o' = oi := Option.some.inj (ho'.symm.trans hoi)
  subst this
  rw [← hon]
  exact hall e he hb

theorem consec_tail {a : Nat} {l : List Nat} (h : consec ops (a :: l) = true) : consec ops l = true := by
  cases l with
  | nil => rfl
  | cons b r => simp only [consec, Bool.and_eq_true] at h; exact h.2
/-- Of the chain's operations that are left, only the first may be ready. -/
theorem consec_ready : ∀ {rest : List Nat} {listed : Array Bool}, consec ops rest = true → (∀ c ∈ rest, listed.getD c true = false) → ∀ c ∈ rest, (∀ oc, ops[c]? = some oc → ∀ e ∈ oc.after, Region.binds .any e = true → listed.getD e.on false = true) → ops[c]?.isSome = true → rest.head? = some c
  | [], _, _, _, c, hc, _, _ => by cases hc
  | [x], _, _, _, c, hc, _, _ => by simp at hc; simp [hc]
  | x :: y :: r, listed, hcs, hun, c, hc, hdep, hs => by
    simp only [consec, Bool.and_eq_true] at hcs
    rcases List.mem_cons.1 hc with rfl | hc'
    · rfl
    · have hy := consec_ready hcs.2 (fun c hc => hun c (List.mem_cons_of_mem _ hc)) c hc' hdep hs
      simp only [List.head?_cons, Option.some.injEq] at hy
      subst hy
      obtain ⟨oc, hoc⟩ := Option.isSome_iff_exists.1 hs
      have := waits_listed hcs.1 hoc (hdep oc hoc)
      have hx := hun x (List.mem_cons_self ..)
      rw [getD_both hx] at this
      cases this

theorem SettledP.after {C : List Nat} (hM : MixFacts ops C) {i : Nat} {o : Oper} (hi : i ∉ C) (ho : ops[i]? = some o) {c : Nat} {oc : Oper} (hc : c ∈ C) (hoc : ops[c]? = some oc) {V : Act} (h : SettledP P ops J o V) (v : Value) : SettledP P ops J o (V.put oc.dst v) := by
  have hl : ∀ t ∈ o.looksAt ops, (V.put oc.dst v).tmps[t]? = V.tmps[t]? := fun t ht => put_get_ne (fun hd => ((hM.pure i o c oc t ho hoc hi hd).2 ht).1 hc)
  have he := exec_of_agree (ops := ops) (hM.sel o (by have := Array.mem_of_getElem? ho; simpa using this)) hl
  have hwn := wanted_of_agree (ops := ops) hl
  have hput : ∀ u, V.put o.dst u = V → (V.put oc.dst v).put o.dst u = V.put oc.dst v := by
    intro u hu
    refine put_self (a := V.put oc.dst v) (fun d hd => ?_) rfl
    have h1 : (V.put oc.dst v).tmps[d]? = V.tmps[d]? := put_get_ne (fun hd' => (hM.pure i o c oc d ho hoc hi hd').1 (fun e => hi (e ▸ hc)) hd)
    have h2 : (V.put o.dst u).tmps[d]? = V.tmps[d]? := by rw [hu]
    rw [hd] at h2 ⊢
    rw [h1]
    by_cases hlt : d < V.tmps.size
    · have hlt' : d < (V.put oc.dst v).tmps.size := by rw [put_size]; exact hlt
      simp only [Act.put, Array.getElem?_setIfInBounds, if_pos hlt, if_true] at h2
      have e2 : ((V.put oc.dst v).put (some d) u).tmps[d]? = some u := by
        show ((V.put oc.dst v).tmps.setIfInBounds d u)[d]? = _
        simp [hlt']
      rw [e2, h2]
    · have hlt' : ¬ d < (V.put oc.dst v).tmps.size := by rw [put_size]; exact hlt
      have e2 : ((V.put oc.dst v).put (some d) u).tmps[d]? = none := by
        show ((V.put oc.dst v).tmps.setIfInBounds d u)[d]? = _
        simp [hlt']
      rw [e2]
      exact Array.getElem?_eq_none (Nat.le_of_not_lt hlt)
  refine ⟨fun hw => ?_, fun hw => ?_⟩
  · rw [hwn] at hw
    obtain ⟨u, h1, h2⟩ := h.1 hw
    exact ⟨u, fun w hJ => by rw [he]; exact h1 w hJ, hput u h2⟩
  · rw [hwn] at hw
    exact hput undef (h.2 hw)

theorem mix_step {C : List Nat} (hM : MixFacts ops C) : ∀ (m : Nat) (done rest : List Nat) (V : Act) (listed : Array Bool) (a : Act) (w : World), unl ops.size listed = m → MixSt P ops C J done rest V listed a → wpC P ops J Q rest V w → wpAny P .any ops Q m listed a w := by
  intro m
  induction m with
  | zero =>
    intro done rest V listed a w hm hS hC
    have hall : ∀ i, i < ops.size → listed.getD i true = true := by
      intro i hi
      unfold unl at hm
      rw [List.countP_eq_zero] at hm
      have := hm i (List.mem_range.2 hi)
      simpa using this
    have hr : rest = [] := by
      cases rest with
      | nil => rfl
      | cons c r =>
        have h1 := hS.un c (List.mem_cons_self ..)
        rw [hall c (hM.lt c (by rw [hS.split]; simp))] at h1
        cases h1
    subst hr
    have ha : a = V := by
      have h1 : a.tmps = V.tmps := by
        apply Array.ext_getElem?
        intro t
        refine hS.agree t (fun j oj _ hoj hun => ?_)
        rw [hall j (Array.getElem?_eq_some_iff.1 hoj).1] at hun; cases hun
      have h2 := hS.dfs
      cases a; cases V; simp_all
    subst ha
    refine ⟨?_, hC⟩
    rw [List.eq_nil_iff_forall_not_mem]
    intro i hi
    obtain ⟨hun, oi, hoi, _⟩ := mem_ready.1 hi
    rw [hall i (Array.getElem?_eq_some_iff.1 hoi).1] at hun
    cases hun
  | succ m ih =>
    intro done rest V listed a w hm hS hC
    have hex : ∃ i, i < ops.size ∧ listed.getD i true = false := by
      have : 0 < unl ops.size listed := by omega
      unfold unl at this
      rw [List.countP_pos_iff] at this
      obtain ⟨i, hi, h⟩ := this
      exact ⟨i, List.mem_range.1 hi, by simpa using h⟩
    have hsmall : ∀ k i, i ≤ k → i < ops.size → listed.getD i true = false → ∃ j, j ∈ Region.ready .any ops listed := by
      intro k
      induction k with
      | zero =>
        intro i hi hlt hun
        refine ⟨i, mem_ready.2 ⟨hun, ops[i], by simp [hlt], fun e he hbd => ?_⟩⟩
        have := hM.back i ops[i] (by simp [hlt]) e he hbd
        omega
      | succ k ihk =>
        intro i hi hlt hun
        by_cases hex2 : ∃ e ∈ (ops[i]).after, Region.binds .any e = true ∧ listed.getD e.on false = false
        · obtain ⟨e, he, hbd, hf⟩ := hex2
          have hlt2 := hM.back i ops[i] (by simp [hlt]) e he hbd
          exact ihk e.on (by omega) (by omega) (getD_in (by rw [hS.size]; omega) hf)
        · refine ⟨i, mem_ready.2 ⟨hun, ops[i], by simp [hlt], fun e he hbd => ?_⟩⟩
          cases hf : listed.getD e.on false with
          | true => rfl
          | false => exact absurd ⟨e, he, hbd, hf⟩ hex2
    -- an operation beside the chain that has not been run: the chain is not at its end
    have hleft : ∀ d i, ops.size - i ≤ d → i < ops.size → listed.getD i true = false → ∃ c, c ∈ rest := by
      intro d
      induction d with
      | zero => intro i hi hlt _; omega
      | succ d ihd =>
        intro i hi hlt hun
        by_cases hiC : i ∈ C
        · rw [hS.split] at hiC
          rcases List.mem_append.1 hiC with h | h
          · rw [hS.dn i h] at hun; cases hun
          · exact ⟨i, h⟩
        · obtain ⟨k, hk, hwf⟩ := hM.waiter i hlt hiC
          have hok : ops[k]? = some ops[k] := by simp [hk]
          have hik : i < k := by
            obtain ⟨o', ho', e, he, hb, hon⟩ := Region.waitsFor_spec hwf
            have := hM.back k o' ho' e he hb
            omega
          have hku : listed.getD k true = false := by
            cases hf : listed.getD k true with
            | false => rfl
            | true =>
              have := waits_listed hwf hok (hS.closed k _ hok hf)
              rw [getD_both hun] at this
              cases this
          exact ihd k (by omega) hk hku
    obtain ⟨i0, hi0, hun0⟩ := hex
    obtain ⟨j0, hj0⟩ := hsmall i0 i0 (Nat.le_refl _) hi0 hun0
    obtain ⟨c0, hc0⟩ := hleft _ i0 (Nat.le_refl _) hi0 hun0
    refine ⟨fun h => (by rw [h] at hj0; cases hj0), fun i hi => ?_⟩
    obtain ⟨hiun, oi, hoi, hall⟩ := mem_ready.1 hi
    have hilt := (Array.getElem?_eq_some_iff.1 hoi).1
    have hun' : unl ops.size (listed.setIfInBounds i true) = m := by
      have := unl_set hilt hiun
      omega
    have hJw : J w := by
      cases rest with
      | nil => cases hc0
      | cons c r => exact hC.1
    have hag : ∀ t ∈ oi.looksAt ops, a.tmps[t]? = V.tmps[t]? := by
      intro t ht
      refine hS.agree t (fun j oj hj hoj hun hd => ?_)
      have hwf : Region.waitsFor .any ops i j = true := by
        by_cases hiC : i ∈ C
        · exact (hM.chain i oi j oj t hoi hoj hiC hj hd).2 ht
        · exact ((hM.pure i oi j oj t hoi hoj hiC hd).2 ht).2.2
      have h3 := waits_listed hwf hoi hall
      rw [getD_both hun] at h3
      cases h3
    have he := exec_of_agree (ops := ops) (hM.sel oi (by
      have := Array.mem_of_getElem? hoi
      simpa using this)) hag
    have hwn := wanted_of_agree (ops := ops) hag
    have hclosed : ∀ (j : Nat) (oj : Oper), ops[j]? = some oj → (listed.setIfInBounds i true).getD j true = true → ∀ e ∈ oj.after, Region.binds .any e = true → (listed.setIfInBounds i true).getD e.on false = true := by
      intro j oj hoj hl e he' hb
      have hset : ∀ k, listed.getD k false = true → (listed.setIfInBounds i true).getD k false = true := fun k hk => by
        by_cases hki : k = i
        · subst hki
          have : k < listed.size := by rw [hS.size]; exact hilt
          simp [this]
        · rw [getD_set_ne false (Ne.symm hki)]; exact hk
      by_cases hji : j = i
      · subst hji
        have : oj = oi := Option.some.inj (hoj.symm.trans hoi)
        subst this
        exact hset _ (hall e he' hb)
      · rw [getD_set_ne true (Ne.symm hji)] at hl
        exact hset _ (hS.closed j oj hoj hl e he' hb)
    unfold wpOp
    simp only [hoi]
    by_cases hiC : i ∈ C
    · -- the chain's next operation
      have hir : i ∈ rest := by
        rw [hS.split] at hiC
        rcases List.mem_append.1 hiC with h | h
        · rw [hS.dn i h] at hiun; cases hiun
        · exact h
      have hcr : consec ops rest = true := by
        have : ∀ (d r : List Nat), consec ops (d ++ r) = true → consec ops r = true := by
          intro d
          induction d with
          | nil => exact fun r h => h
          | cons x d ihx => exact fun r h => ihx r (consec_tail h)
        exact this done rest (by rw [← hS.split]; exact hM.cons)
      have hhd := consec_ready hcr hS.un i hir (fun oc hoc => by
        have : oc = oi := Option.some.inj (hoc.symm.trans hoi)
        subst this
        exact hall) (by rw [hoi]; rfl)
      cases rest with
      | nil => cases hir
      | cons c r =>
        simp only [List.head?_cons, Option.some.injEq] at hhd
        subst hhd
        obtain ⟨_, o', ho', hgd, hstep⟩ := hC
        have : o' = oi := Option.some.inj (ho'.symm.trans hoi)
        subst this
        have hw : Region.wanted o' (yielded ops a.tmps) = true := by simp [Region.wanted, hgd]
        rw [if_pos hw]
        refine .inl ?_
        have hnext : ∀ v, MixSt P ops C J (done ++ [c]) r (V.put o'.dst v) (listed.setIfInBounds c true) (a.put o'.dst v) := by
          intro v
          have hcn : c ∉ r := by
            have := hM.nodup
            rw [hS.split] at this
            have := (List.nodup_append.1 this).2.1
            exact (List.nodup_cons.1 this).1
          refine ⟨by rw [hS.split]; simp, by simpa using hS.size, ?_, ?_, hclosed, by rw [put_defers', put_defers']; exact hS.dfs, by rw [put_size, put_size]; exact hS.sz, ?_, fun i' o hi' ho => (hS.settled i' o hi' ho).after hM hi' ho hiC hoi v⟩
          · intro k hk
            by_cases hkc : k = c
            · subst hkc
              have : k < listed.size := by rw [hS.size]; exact hilt
              simp [this]
            · rw [getD_set_ne true (Ne.symm hkc)]
              rcases List.mem_append.1 hk with h | h
              · exact hS.dn k h
              · simp at h; exact absurd h hkc
          · intro k hk
            have hkc : k ≠ c := fun e => hcn (e ▸ hk)
            rw [getD_set_ne true (Ne.symm hkc)]
            exact hS.un k (List.mem_cons_of_mem _ hk)
          · intro t ht
            by_cases hd : o'.dst = some t
            · rw [hd]
              by_cases hlt : t < a.tmps.size
              · have hlt' : t < V.tmps.size := by rw [← hS.sz]; exact hlt
                simp [Act.put, hlt, hlt']
              · have hlt' : ¬ t < V.tmps.size := by rw [← hS.sz]; exact hlt
                simp [Act.put, hlt, hlt']
            · rw [put_get_ne hd, put_get_ne hd]
              refine hS.agree t (fun j oj hj hoj hun => ?_)
              exact ht j oj hj hoj (by rw [getD_set_ne true (fun e : c = j => hj (by rw [← e]; exact hiC))]; exact hun)
        unfold Oper.wp
        rw [he]
        generalize (execOp V.eval o').run P w = r' at hstep
        cases r' with
        | halt x w' => exact hstep.elim
        | ok nx w' =>
          cases nx <;> simp only [StepC] at hstep <;> simp only [Oper.upon]
          case value u => exact ih _ _ _ _ _ _ hun' (hnext u) hstep
          case skip => exact ih _ _ _ _ _ _ hun' (hnext undef) hstep
          case enter f args =>
            refine Calls.mono hstep (fun e w'' hh => ?_)
            obtain ⟨v, rfl, hk⟩ := hh
            exact ih _ _ _ _ _ _ hun' (hnext v) hk
    · -- beside the chain
      have hU' : ∀ v, V.put oi.dst v = V → MixSt P ops C J done rest V (listed.setIfInBounds i true) (a.put oi.dst v) := by
        intro v hv
        refine ⟨hS.split, by simpa using hS.size, ?_, ?_, hclosed, by rw [put_defers']; exact hS.dfs, by rw [put_size]; exact hS.sz, ?_, hS.settled⟩
        · intro k hk
          have : k ≠ i := fun e => hiC (by rw [hS.split, ← e]; exact List.mem_append_left _ hk)
          rw [getD_set_ne true (Ne.symm this)]
          exact hS.dn k hk
        · intro k hk
          have : k ≠ i := fun e => hiC (by rw [hS.split, ← e]; exact List.mem_append_right _ hk)
          rw [getD_set_ne true (Ne.symm this)]
          exact hS.un k hk
        · intro t ht
          by_cases hd : oi.dst = some t
          · rw [← hv, hd]
            by_cases hlt : t < a.tmps.size
            · have hlt' : t < V.tmps.size := by rw [← hS.sz]; exact hlt
              simp [Act.put, hlt, hlt']
            · have hlt' : ¬ t < V.tmps.size := by rw [← hS.sz]; exact hlt
              simp [Act.put, hlt, hlt']
          · rw [put_get_ne hd]
            refine hS.agree t (fun j oj hj hoj hun hdj => ?_)
            by_cases hji : j = i
            · subst hji
              have : oj = oi := Option.some.inj (hoj.symm.trans hoi)
              subst this
              exact hd hdj
            · exact ht j oj hj hoj (by rw [getD_set_ne true (Ne.symm hji)]; exact hun) hdj
      have hSt := hS.settled i oi hiC hoi
      by_cases hw : Region.wanted oi (yielded ops V.tmps) = true
      · obtain ⟨v, hy, hv⟩ := hSt.1 hw
        rw [hwn, if_pos hw]
        refine .inl ?_
        unfold Oper.wp
        rw [he, hy w hJw]
        exact ih _ _ _ _ _ _ hun' (hU' v hv) hC
      · have hw' : Region.wanted oi (yielded ops V.tmps) = false := by simpa using hw
        rw [hwn, if_neg hw]
        exact ih _ _ _ _ _ _ hun' (hU' _ (hSt.2 hw')) hC

/-- The operations beside the chain, in the text's order. -/
def wpM (P : Program) (ops : Array Oper) (J : World → Prop) (R : Act → Prop) : List Oper → Act → Prop
  | [], a => R a
  | o :: rest, a =>
    if Region.wanted o (yielded ops a.tmps) then ∃ v, (∀ w, J w → (execOp a.eval o).run P w = .ok (.value v) w) ∧ wpM P ops J R rest (a.put o.dst v)
    else wpM P ops J R rest (a.put o.dst undef)

theorem wpM_settles {R : Act → Prop} (hsel : ∀ o ∈ ops.toList, ∀ cs b, o.op ≠ .select cs b) :
    ∀ (l : List Oper), (∀ o ∈ l, o ∈ ops.toList) →
      (l.Pairwise fun o o' => ∀ d, o'.dst = some d → o.dst ≠ some d ∧ d ∉ o.looksAt ops) → (∀ o ∈ l, ∀ d, o.dst = some d → d ∉ o.looksAt ops) →
      ∀ a, wpM P ops J R l a → ∃ A, R A ∧ A.tmps.size = a.tmps.size ∧ A.defers = a.defers ∧
        (∀ t, (∀ o ∈ l, o.dst ≠ some t) → A.tmps[t]? = a.tmps[t]?) ∧ ∀ o ∈ l, SettledP P ops J o A := by
  intro l
  induction l with
  | nil => intro _ _ _ a h; exact ⟨a, h, rfl, rfl, fun _ _ => rfl, fun o ho => by cases ho⟩
  | cons o rest ih =>
    intro hmem hpw hown a h
    rw [List.pairwise_cons] at hpw
    have hlook : ∀ {A : Act} {v : Value}, (∀ t, (∀ o' ∈ rest, o'.dst ≠ some t) → A.tmps[t]? = (a.put o.dst v).tmps[t]?) → ∀ t ∈ o.looksAt ops, a.tmps[t]? = A.tmps[t]? := by
      intro A v hA t ht
      have h1 : ∀ o' ∈ rest, o'.dst ≠ some t := fun o' ho' hd => (hpw.1 o' ho' t hd).2 ht
      rw [hA t h1, put_get_ne]
      intro hd
      exact hown o (List.mem_cons_self ..) t hd ht
    have hself : ∀ {A : Act} {v : Value}, A.tmps.size = (a.put o.dst v).tmps.size → (∀ t, (∀ o' ∈ rest, o'.dst ≠ some t) → A.tmps[t]? = (a.put o.dst v).tmps[t]?) → A.put o.dst v = A := by
      intro A v hsz hA
      refine put_self (a := a) (fun d hd => ?_) (by rw [hsz, put_size])
      exact hA d (fun o' ho' hd' => (hpw.1 o' ho' d hd').1 hd)
    unfold wpM at h
    split at h
    · rename_i hw
      obtain ⟨v, hy, hr⟩ := h
      obtain ⟨A, hRA, hsz, hdf, hA, hset⟩ := ih (fun o' ho' => hmem o' (List.mem_cons_of_mem _ ho')) hpw.2 (fun o' ho' => hown o' (List.mem_cons_of_mem _ ho')) _ hr
      have hl := hlook hA
      have he := exec_of_agree (ops := ops) (hsel o (hmem o (List.mem_cons_self ..))) hl
      have hwn := wanted_of_agree (ops := ops) hl
      refine ⟨A, hRA, by rw [hsz, put_size], by rw [hdf, put_defers'], fun t ht => ?_, fun o' ho' => ?_⟩
      · rw [hA t (fun o' ho' => ht o' (List.mem_cons_of_mem _ ho')), put_get_ne (ht o (List.mem_cons_self ..))]
      · rcases List.mem_cons.1 ho' with rfl | ho'
        · refine ⟨fun _ => ⟨v, ?_, hself hsz hA⟩, fun hf => ?_⟩
          · intro w hJ
            rw [← he]
            exact hy w hJ
          · rw [← hwn, hw] at hf; cases hf
        · exact hset o' ho'
    · rename_i hw
      obtain ⟨A, hRA, hsz, hdf, hA, hset⟩ := ih (fun o' ho' => hmem o' (List.mem_cons_of_mem _ ho')) hpw.2 (fun o' ho' => hown o' (List.mem_cons_of_mem _ ho')) _ h
      have hl := hlook hA
      have hwn := wanted_of_agree (ops := ops) hl
      refine ⟨A, hRA, by rw [hsz, put_size], by rw [hdf, put_defers'], fun t ht => ?_, fun o' ho' => ?_⟩
      · rw [hA t (fun o' ho' => ht o' (List.mem_cons_of_mem _ ho')), put_get_ne (ht o (List.mem_cons_self ..))]
      · rcases List.mem_cons.1 ho' with rfl | ho'
        · refine ⟨fun hf => ?_, fun _ => hself hsz hA⟩
          rw [← hwn] at hf; exact absurd hf hw
        · exact hset o' ho'

/-- The operations that are not of the chain, from number k on. -/
def beside (C : List Nat) : List Oper → Nat → List Oper
  | [], _ => []
  | o :: r, k => if C.contains k then beside C r (k + 1) else o :: beside C r (k + 1)
theorem beside_mem {C : List Nat} : ∀ {l : List Oper} {k : Nat} {o : Oper}, o ∈ beside C l k ↔ ∃ i, l[i]? = some o ∧ k + i ∉ C
  | [], k, o => by simp [beside]
  | x :: r, k, o => by
    have ih := beside_mem (C := C) (l := r) (k := k + 1) (o := o)
    rw [beside]
    constructor
    · intro h
      split at h
      · obtain ⟨i, h1, h2⟩ := ih.1 h
        exact ⟨i + 1, by simpa using h1, by rw [show k + (i + 1) = k + 1 + i by omega]; exact h2⟩
      · rename_i hk
        rcases List.mem_cons.1 h with rfl | h
        · exact ⟨0, rfl, by simpa using hk⟩
        · obtain ⟨i, h1, h2⟩ := ih.1 h
          exact ⟨i + 1, by simpa using h1, by rw [show k + (i + 1) = k + 1 + i by omega]; exact h2⟩
    · rintro ⟨i, h1, h2⟩
      cases i with
      | zero =>
        simp at h1
        subst h1
        rw [if_neg (by simpa using h2)]
        exact List.mem_cons_self ..
      | succ i =>
        have h3 : o ∈ beside C r (k + 1) := ih.2 ⟨i, by simpa using h1, by rw [show k + 1 + i = k + (i + 1) by omega]; exact h2⟩
        split
        · exact h3
        · exact List.mem_cons_of_mem _ h3
theorem beside_pair {C : List Nat} {S : Nat → Oper → Nat → Oper → Prop} : ∀ {l : List Oper} {k : Nat}, (∀ i j oi oj, l[i]? = some oi → l[j]? = some oj → i < j → k + i ∉ C → k + j ∉ C → S (k + i) oi (k + j) oj) → (beside C l k).Pairwise (fun o o' => ∃ i j, S i o j o')
  | [], k, _ => List.Pairwise.nil
  | x :: r, k, h => by
    have ih := beside_pair (C := C) (S := S) (l := r) (k := k + 1) (fun i j oi oj hi hj hij h1 h2 => by
      have := h (i + 1) (j + 1) oi oj (by simpa using hi) (by simpa using hj) (by omega) (by rw [show k + (i + 1) = k + 1 + i by omega]; exact h1) (by rw [show k + (j + 1) = k + 1 + j by omega]; exact h2)
      rw [show k + 1 + i = k + (i + 1) by omega, show k + 1 + j = k + (j + 1) by omega]
      exact this)
    rw [beside]
    split
    · exact ih
    · rename_i hk
      refine List.pairwise_cons.2 ⟨fun o' ho' => ?_, ih⟩
      obtain ⟨j, hj, hjC⟩ := beside_mem.1 ho'
      exact ⟨k + 0, k + (j + 1), h 0 (j + 1) x o' rfl (by simpa using hj) (by omega) (by simpa using hk) (by rw [show k + (j + 1) = k + 1 + j by omega]; exact hjC)⟩

/-- THE RULE. -/
theorem wp_region_mix {l : List Oper} {id : Nat} {a : Act} {w : World} (C : List Nat) (J : World → Prop) (hm : P.follows .mixedOrders = true) (hB : mixOk l.toArray C = true)
    (h' : ∀ R : Act → Prop, (∀ A, wpC P l.toArray J Q C A w.drew → R A) → wpM P l.toArray J R (beside C l 0) a) : (Code.region id l.toArray true).wp P Q a w := by
  have h := h' (fun A => wpC P l.toArray J Q C A w.drew) (fun _ h => h)
  have hM := mixOk_spec hB
  have hget : ∀ o ∈ beside C l 0, ∃ i, i ∉ C ∧ l[i]? = some o := fun o ho => by
    obtain ⟨i, h1, h2⟩ := beside_mem.1 ho
    exact ⟨i, by simpa using h2, h1⟩
  obtain ⟨A, hRA, hsz, hdf, hA, hset⟩ := wpM_settles (P := P) (J := J) (ops := l.toArray) hM.sel (beside C l 0) (fun o ho => by
      obtain ⟨i, _, h1⟩ := hget o ho
      have := List.mem_of_getElem? h1
      simpa using this)
    (by
      refine (beside_pair (C := C) (S := fun i oi j oj => ∀ d, oj.dst = some d → oi.dst ≠ some d ∧ d ∉ oi.looksAt l.toArray) (fun i j oi oj hi hj hij h1 h2 d hd => ?_)).imp (fun ⟨_, _, h⟩ => h)
      have := hM.pure (0 + i) oi (0 + j) oj d (by simpa using hi) (by simpa using hj) h1 hd
      exact ⟨this.1 (by omega), fun hl => by have := (this.2 hl).2.1; omega⟩)
    (fun o ho d hd hl => by
      obtain ⟨i, hiC, hio⟩ := hget o ho
      have := ((hM.pure i o i o d (by simpa using hio) (by simpa using hio) hiC hd).2 hl).2.1
      omega) a h
  refine wp_region_any hm ?_
  have hun : unl l.toArray.size (Array.replicate l.toArray.size false) = l.toArray.size := unl_none _ _ (Nat.le_refl _)
  refine mix_step hM l.toArray.size [] C A (Array.replicate l.toArray.size false) a w.drew hun ⟨rfl, by simp, fun c hc => (by cases hc), fun c hc => getD_in (by simpa using hM.lt c hc) (getD_replicate_false _ _), fun j oj _ hl => ?_, hdf.symm, hsz.symm, fun t ht => (hA t (fun o ho hd => ?_)).symm, fun i o hi ho => hset o (beside_mem.2 ⟨i, by simpa using ho, by simpa using hi⟩)⟩ hRA
  · rename_i hoj
    have : j < l.toArray.size := (Array.getElem?_eq_some_iff.1 hoj).1
    have h2 : j < l.length := by simpa using this
    simp [h2] at hl
  · obtain ⟨i, hi, hio⟩ := hget o ho
    have hlt : i < l.length := (List.getElem?_eq_some_iff.1 hio).1
    exact ht i o hi (by simpa using hio) (by simp [hlt]) hd
end

/-- The operations that a mask marks. -/
def marked : List Bool → List Oper → List Oper
  | true :: m, o :: r => o :: marked m r
  | false :: m, _ :: r => marked m r
  | _, _ => []
def maskOf (C : List Nat) : Nat → Nat → List Bool
  | 0, _ => []
  | n + 1, k => (!C.contains k) :: maskOf C n (k + 1)
theorem marked_eq (C : List Nat) : ∀ (l : List Oper) (k : Nat), marked (maskOf C l.length k) l = beside C l k
  | [], _ => rfl
  | o :: r, k => by
    have ih := marked_eq C r (k + 1)
    rw [List.length_cons, maskOf, beside]
    cases h : C.contains k
    · simp only [Bool.not_false, marked, ih]
      rfl
    · simp only [Bool.not_true, marked, ih]
      rfl
/-- THE RULE, the chain's numbers by a mask too. -/
theorem wp_region_mask {P : Program} {Q : Exit → Act → World → Prop} {l : List Oper} {id : Nat} {a : Act} {w : World} (C : List Nat) (mask : List Bool) (J : World → Prop) (hm : P.follows .mixedOrders = true) (hB : (mixOk l.toArray C && mask == maskOf C l.length 0) = true)
    (h' : ∀ R : Act → Prop, (∀ A, wpC P l.toArray J Q C A w.drew → R A) → wpM P l.toArray J R (marked mask l) a) : (Code.region id l.toArray true).wp P Q a w := by
  simp only [Bool.and_eq_true, beq_iff_eq] at hB
  refine wp_region_mix C J hm hB.1 (fun R hR => ?_)
  have := h' R hR
  rw [hB.2, marked_eq] at this
  exact this

section
variable {P : Program} {ops : Array Oper} {J : World → Prop} {Q : Exit → Act → World → Prop} {R : Act → Prop} {a V : Act} {o : Oper} {rest : List Oper} {w w' : World}
theorem wpM_nil (h : R a) : wpM P ops J R [] a := h
theorem wpM_val {v : Value} (hw : Region.wanted o (yielded ops a.tmps) = true) (h : ∀ w, J w → (execOp a.eval o).run P w = .ok (.value v) w)
    (hr : wpM P ops J R rest (a.put o.dst v)) : wpM P ops J R (o :: rest) a := by
  unfold wpM
  rw [if_pos hw]
  exact ⟨v, h, hr⟩
theorem wpM_move {dst : Option Tmp} {x : Operand} {ty : TypeId} {pos : String} {after : Array Edge} {gd : Option (Nat × Bool)}
    (hw : Region.wanted ⟨dst, .move x, ty, pos, after, gd⟩ (yielded ops a.tmps) = true)
    (hr : wpM P ops J R rest (a.put dst (a.eval x))) : wpM P ops J R (⟨dst, .move x, ty, pos, after, gd⟩ :: rest) a :=
  wpM_val hw (fun _ _ => rfl) hr
theorem wpM_skip (hw : Region.wanted o (yielded ops a.tmps) = false) (hr : wpM P ops J R rest (a.put o.dst undef)) : wpM P ops J R (o :: rest) a := by
  unfold wpM
  rw [hw]
  exact hr
theorem wpC_nil (h : Q .normal V w) : wpC P ops J Q [] V w := h
/-- A step of the chain that comes to a value. -/
theorem wpC_run {i : Nat} {C : List Nat} {v : Value} (ho : ops[i]? = some o) (hg : o.guard = none) (hJ : J w) (hr : (execOp V.eval o).run P w = .ok (.value v) w') (h : wpC P ops J Q C (V.put o.dst v) w') : wpC P ops J Q (i :: C) V w :=
  ⟨hJ, o, ho, hg, by rw [hr]; exact h⟩
/-- A step of the chain that yields nothing (a store). -/
theorem wpC_skip {i : Nat} {C : List Nat} (ho : ops[i]? = some o) (hg : o.guard = none) (hJ : J w) (hr : (execOp V.eval o).run P w = .ok .skip w') (h : wpC P ops J Q C (V.put o.dst undef) w') : wpC P ops J Q (i :: C) V w :=
  ⟨hJ, o, ho, hg, by rw [hr]; exact h⟩
/-- A step of the chain that is a call. -/
theorem wpC_call {i : Nat} {C : List Nat} {f : FuncId} {args : Array Value} (ho : ops[i]? = some o) (hg : o.guard = none) (hJ : J w) (hr : (execOp V.eval o).run P w = .ok (.enter f args) w') (h : Calls P f args w' (fun e w'' => ∃ v, e = .returned v ∧ wpC P ops J Q C (V.put o.dst v) w'')) : wpC P ops J Q (i :: C) V w :=
  ⟨hJ, o, ho, hg, by rw [hr]; exact h⟩
/-- A step of the chain that is an append. -/
theorem wpC_append {i : Nat} {C : List Nat} {v : Value} {t : TypeId} (s x : Operand) (ho : ops[i]? = some o) (hg : o.guard = none) (hop : o.op = .call { callee := .builtin .append, args := #[s, x], argTypes := #[t, t] }) (hJ : J w)
    (hr : (Builtin.append_ #[t, t] o.type #[V.eval s, V.eval x]).run P w = .ok v w') (h : wpC P ops J Q C (V.put o.dst v) w') : wpC P ops J Q (i :: C) V w := by
  refine wpC_run ho hg hJ ?_ h
  unfold execOp
  simp only [hop, resolve, invoke, builtin, Sem.run_bind, Sem.run_pure, Result.andThen_ok, List.map_toArray, List.map_cons, List.map_nil, hr]
end
end Go.Proofs.YtmcodendnpjlaaaDoor
