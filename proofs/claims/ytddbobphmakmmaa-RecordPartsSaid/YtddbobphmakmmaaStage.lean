/- A third rule for regions that draw their order: each operation, run once, turns what holds before it into what holds behind it, whatever was run already. No statement about the program. -/
import Derived.Test.YtddbobphmakmmaaKitB
namespace Go.Proofs.Ytddbobphmakmmaa
open Go.RowKit

section
variable {P : Program} {ops : Array Oper} {I : Array Bool → World → Prop}

/-- Operation i comes to the value that the frame at the end holds, whichever others have been run. -/
def SettledS (P : Program) (ops : Array Oper) (I : Array Bool → World → Prop) (A : Act) (i : Nat) (o : Oper) : Prop :=
  (Region.wanted o (yielded ops A.tmps) = true → ∃ v, A.put o.dst v = A ∧ ∀ listed w, listed.size = ops.size → listed.getD i true = false → I listed w → Gives P (fun w' => I (listed.setIfInBounds i true) w') v ((execOp A.eval o).run P w)) ∧
  (Region.wanted o (yielded ops A.tmps) = false → A.put o.dst undef = A ∧ ∀ listed w, listed.size = ops.size → listed.getD i true = false → I listed w → I (listed.setIfInBounds i true) w)

theorem wpAny_stage {n : Nat} {A : Act} {Q : Exit → Act → World → Prop} (hB : orderOk ops n = true) (hset : ∀ i o, i < n → ops[i]? = some o → SettledS P ops I A i o)
    (hR : ∀ w, I (finL ops.size n) w → wpList P ops Q (ops.toList.drop n) A w) :
    ∀ (m : Nat) (listed : Array Bool) (a : Act) (w : World), unl n listed = m → Upto ops n A listed a → I listed w → wpAny P .any ops Q (m + (ops.size - n)) listed a w := by
  simp only [orderOk, Bool.and_eq_true, Bool.or_eq_true, decide_eq_true_eq] at hB
  obtain ⟨⟨hI, hT⟩, hseq⟩ := hB
  obtain ⟨hsel, hnle, hback, hdis⟩ := invOk_spec hI
  intro m
  induction m with
  | zero =>
    intro listed a w hm hU hInv
    have hall : ∀ i, i < n → listed.getD i true = true := by
      intro i hi
      unfold unl at hm
      rw [List.countP_eq_zero] at hm
      have := hm i (List.mem_range.2 hi)
      simpa using this
    have ha : a = A := by
      have h1 : a.tmps = A.tmps := by
        apply Array.ext_getElem?
        intro t
        refine hU.agree t (fun j oj hj _ hun => ?_)
        rw [hall j hj] at hun; cases hun
      have h2 := hU.dfs
      cases a; cases A; simp_all
    have hl : listed = finL ops.size n := by
      apply Array.ext_getElem?
      intro i
      rcases Nat.lt_or_ge i ops.size with hi | hi
      · have hi' : i < listed.size := by rw [hU.head.size]; exact hi
        by_cases hin : i < n
        · have := hall i hin
          simp [hi'] at this
          simp [finL, hi, hi', hin, this]
        · have := hU.head.tail i (by omega) hi
          simp [hi'] at this
          simp [finL, hi, hi', hin, this]
      · have hi' : listed.size ≤ i := by rw [hU.head.size]; exact hi
        simp [finL, hi, hi']
    subst ha
    subst hl
    have := wpAny_of_seq (P := P) (md := .any) (Q' := Q) (ops.toList.drop n) n (finL ops.size n) a w (fun j => by simp [List.getElem?_drop]) (by simpa using hseq) (hR w hInv)
    simpa using this
  | succ m ih =>
    intro listed a w hm hU hInv
    have hex : ∃ i, i < n ∧ listed.getD i true = false := by
      have : 0 < unl n listed := by omega
      unfold unl at this
      rw [List.countP_pos_iff] at this
      obtain ⟨i, hi, h⟩ := this
      exact ⟨i, List.mem_range.1 hi, by simpa using h⟩
    have hsmall : ∀ k i, i ≤ k → i < n → listed.getD i true = false → ∃ j, j ∈ Region.ready .any ops listed := by
      intro k
      induction k with
      | zero =>
        intro i hi hin hun
        have hlt : i < ops.size := by omega
        refine ⟨i, mem_ready.2 ⟨hun, ops[i], by simp [hlt], fun e he hbd => ?_⟩⟩
        have := hback i ops[i] (by simp [hlt]) e he hbd
        omega
      | succ k ihk =>
        intro i hi hin hun
        have hlt : i < ops.size := by omega
        by_cases hex2 : ∃ e ∈ (ops[i]).after, Region.binds .any e = true ∧ listed.getD e.on false = false
        · obtain ⟨e, he, hbd, hf⟩ := hex2
          have hlt2 := hback i ops[i] (by simp [hlt]) e he hbd
          exact ihk e.on (by omega) (by omega) (getD_in (by rw [hU.head.size]; omega) hf)
        · refine ⟨i, mem_ready.2 ⟨hun, ops[i], by simp [hlt], fun e he hbd => ?_⟩⟩
          cases hf : listed.getD e.on false with
          | true => rfl
          | false => exact absurd ⟨e, he, hbd, hf⟩ hex2
    obtain ⟨i0, hi0, hun0⟩ := hex
    obtain ⟨j0, hj0⟩ := hsmall i0 i0 (Nat.le_refl _) hi0 hun0
    rw [show m + 1 + (ops.size - n) = (m + (ops.size - n)) + 1 by omega]
    refine ⟨fun h => (by rw [h] at hj0; cases hj0), fun i hi => ?_⟩
    obtain ⟨hiun, oi, hoi, hall⟩ := mem_ready.1 hi
    have hin : i < n := by
      rcases Nat.lt_or_ge i n with h | h
      · exact h
      · have hilt := (Array.getElem?_eq_some_iff.1 hoi).1
        rcases hT with hT | ⟨hs, hc⟩
        · omega
        · exact absurd hi (tail_waits hs hc (by omega) hU.head _ i0 rfl hi0 hun0 i h)
    have hag : ∀ t ∈ oi.looksAt ops, a.tmps[t]? = A.tmps[t]? := by
      intro t ht
      refine hU.agree t (fun j oj hj hoj hun hd => ?_)
      obtain ⟨_, h2⟩ := hdis i oi j oj t hoi hoj hin hj hd
      obtain ⟨hji, hwf⟩ := h2 ht
      obtain ⟨o', ho', e, he, hb, hon⟩ := Region.waitsFor_spec hwf
      have : o' = oi := Option.some.inj (ho'.symm.trans hoi)
      subst this
      have h3 := hall e he hb
      rw [hon, getD_both hun] at h3
      cases h3
    have he := exec_of_agree (ops := ops) (hsel oi (by
      have := Array.mem_of_getElem? hoi
      simpa using this)) hag
    have hwn := wanted_of_agree (ops := ops) hag
    have hU' : ∀ v, A.put oi.dst v = A → Upto ops n A (listed.setIfInBounds i true) (a.put oi.dst v) := by
      intro v hv
      refine ⟨hU.head.set hi hin, by rw [put_defers']; exact hU.dfs, by rw [put_size]; exact hU.sz, fun t ht => ?_⟩
      by_cases hd : oi.dst = some t
      · rw [← hv, hd]
        by_cases hlt : t < a.tmps.size
        · have hlt' : t < A.tmps.size := by rw [← hU.sz]; exact hlt
          simp [Act.put, hlt, hlt']
        · have hlt' : ¬ t < A.tmps.size := by rw [← hU.sz]; exact hlt
          simp [Act.put, hlt, hlt']
      · rw [put_get_ne hd]
        refine hU.agree t (fun j oj hj hoj hun hdj => ?_)
        by_cases hji : j = i
        · subst hji
          have : oj = oi := Option.some.inj (hoj.symm.trans hoi)
          subst this
          exact hd hdj
        · exact ht j oj hj hoj (by rw [getD_set_ne true (Ne.symm hji)]; exact hun) hdj
    have hun' : unl n (listed.setIfInBounds i true) = m := by
      have := unl_set hin hiun
      omega
    have hS := hset i oi hin hoi
    unfold wpOp
    simp only [hoi]
    by_cases hw : Region.wanted oi (yielded ops A.tmps) = true
    · obtain ⟨v, hv, hy⟩ := hS.1 hw
      rw [hwn, if_pos hw]
      refine .inl ?_
      unfold Oper.wp
      rw [he]
      have hg := hy listed w hU.head.size hiun hInv
      generalize (execOp A.eval oi).run P w = r at hg
      cases r with
      | halt x w' => exact hg.elim
      | ok nx w' =>
        cases nx <;> simp only [Gives] at hg <;> simp only [Oper.upon]
        case value u =>
          obtain ⟨rfl, hI'⟩ := hg
          exact ih _ _ _ hun' (hU' _ hv) hI'
        case skip =>
          obtain ⟨rfl, hI'⟩ := hg
          exact ih _ _ _ hun' (hU' _ hv) hI'
        case enter f args =>
          refine Calls.mono hg (fun e w'' ⟨hee, hI'⟩ => ?_)
          subst hee
          exact ih _ _ _ hun' (hU' _ hv) hI'
    · have hw' : Region.wanted oi (yielded ops A.tmps) = false := by simpa using hw
      rw [hwn, if_neg hw]
      exact ih _ _ _ hun' (hU' _ (hS.2 hw').1) ((hS.2 hw').2 listed w hU.head.size hiun hInv)



/-- THE RULE. -/
theorem wp_region_stage {l : List Oper} {id : Nat} {Q : Exit → Act → World → Prop} {a : Act} {w : World} (n : Nat) (A : Act) (I : Array Bool → World → Prop) (hm : P.follows .mixedOrders = true) (hB : orderOk l.toArray n = true)
    (hdf : A.defers = a.defers) (hsz : A.tmps.size = a.tmps.size) (hA : ∀ t, (∀ o ∈ l.take n, o.dst ≠ some t) → A.tmps[t]? = a.tmps[t]?)
    (h0 : I (Array.replicate l.toArray.size false) w.drew) (hset : ∀ i o, i < n → l[i]? = some o → SettledS P l.toArray I A i o)
    (hR : ∀ w', I (finL l.toArray.size n) w' → wpList P l.toArray Q (l.drop n) A w') : (Code.region id l.toArray true).wp P Q a w := by
  obtain ⟨hsel, hnle, hpw, hown, hget⟩ := walk_facts hB
  refine wp_region_any hm ?_
  have := wpAny_stage (P := P) (I := I) (Q := Q) (A := A) hB (fun i o hi ho => hset i o hi (by simpa using ho)) (by simpa using hR) n (Array.replicate l.toArray.size false) a w.drew (unl_none _ _ (by simpa using hnle))
    ⟨⟨by simp, fun j oj _ hl => (by rw [getD_replicate_false] at hl; cases hl), fun t _ ht => getD_in (by simpa using ht) (getD_replicate_false _ _)⟩, hdf.symm, hsz.symm, fun t ht => (hA t (fun o ho hd => by
      obtain ⟨i, hi, hio⟩ := hget o ho
      have hlt : i < l.length := (List.getElem?_eq_some_iff.1 hio).1
      exact ht i o hi (by simpa using hio) (by simp [hlt]) hd)).symm⟩ h0
  have hnl : n ≤ l.toArray.size := by simpa using hnle
  rw [show n + (l.toArray.size - n) = l.toArray.size by omega] at this
  exact this

theorem settledS_mk {A : Act} {i : Nat} {o : Oper} (hg : o.guard = none) (v : Value) (hp : A.put o.dst v = A) (h : ∀ listed w, listed.size = ops.size → listed.getD i true = false → I listed w → Gives P (fun w' => I (listed.setIfInBounds i true) w') v ((execOp A.eval o).run P w)) : SettledS P ops I A i o := by
  have hw : Region.wanted o (yielded ops A.tmps) = true := by simp [Region.wanted, hg]
  exact ⟨fun _ => ⟨v, hp, h⟩, fun hf => by rw [hw] at hf; cases hf⟩

def putAll (puts : List (Tmp × Value)) (a : Act) : Act := puts.foldl (fun a p => a.put (some p.1) p.2) a
theorem putAll_spec : ∀ (puts : List (Tmp × Value)) (a : Act), (putAll puts a).defers = a.defers ∧ (putAll puts a).tmps.size = a.tmps.size ∧ ∀ t, (∀ p ∈ puts, p.1 ≠ t) → (putAll puts a).tmps[t]? = a.tmps[t]?
  | [], a => ⟨rfl, rfl, fun _ _ => rfl⟩
  | p :: r, a => by
    obtain ⟨h1, h2, h3⟩ := putAll_spec r (a.put (some p.1) p.2)
    refine ⟨h1.trans put_defers', h2.trans put_size, fun t ht => ?_⟩
    have h4 := h3 t (fun q hq => ht q (List.mem_cons_of_mem _ hq))
    rw [put_get_ne (fun e => ht p (List.mem_cons_self ..) (by injection e))] at h4
    exact h4

/-- THE RULE, the frame at the end given by the values that were come to. -/
theorem wp_region_puts {l : List Oper} {id : Nat} {Q : Exit → Act → World → Prop} {a : Act} {w : World} (n : Nat) (puts : List (Tmp × Value)) (I : Array Bool → World → Prop) (hm : P.follows .mixedOrders = true) (hB : orderOk l.toArray n = true)
    (hputs : (puts.map (·.1)).all (fun t => (l.take n).any (fun o => o.dst == some t)) = true)
    (h0 : I (Array.replicate l.toArray.size false) w.drew) (hset : ∀ i o, i < n → l[i]? = some o → SettledS P l.toArray I (putAll puts a) i o)
    (hR : ∀ w', I (finL l.toArray.size n) w' → wpList P l.toArray Q (l.drop n) (putAll puts a) w') : (Code.region id l.toArray true).wp P Q a w := by
  obtain ⟨h1, h2, h3⟩ := putAll_spec puts a
  refine wp_region_stage n (putAll puts a) I hm hB h1 h2 (fun t ht => h3 t (fun p hp e => ?_)) h0 hset hR
  subst e
  rw [List.all_eq_true] at hputs
  have := hputs p.1 (List.mem_map.2 ⟨p, hp, rfl⟩)
  obtain ⟨o, ho, he⟩ := List.any_eq_true.1 this
  exact ht o ho (by simpa using he)
end
end Go.Proofs.Ytddbobphmakmmaa
