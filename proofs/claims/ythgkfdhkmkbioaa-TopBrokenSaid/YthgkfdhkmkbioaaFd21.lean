/- Package flow: what search keeps to; acting operations in any order by an invariant; marks at a return. -/
import Derived.Test.YthgkfdhkmkbioaaFc21
namespace Go.Proofs.Ythgkfdhkmkbioaa
open Go.RowKit Go.Shelf
attribute [local go_sem] Oper.semAt_some

/-! ### Acting operations in any order, by an invariant -/
section
variable {P : Program} {ops : Array Oper} {J : World → Prop} {Q : Exit → Act → World → Prop}
theorem StepC.mono {o : Oper} {V : Act} {K K' : Act → World → Prop} {r : Result Next} (h : StepC P o V K r) (hk : ∀ a w, K a w → K' a w) : StepC P o V K' r := by
  cases r with
  | halt => exact h
  | ok nx w' =>
    cases nx with
    | value v => exact hk _ _ h
    | skip => exact hk _ _ h
    | enter f args =>
      refine Calls.mono h ?_
      rintro e w'' ⟨v, hv, hK⟩
      exact ⟨v, hv, hk _ _ hK⟩
    | _ => exact h
theorem wpF_inv (I : List Nat → Act → World → Prop) (C : List Nat) (hJ : ∀ rest V w, I rest V w → J w)
    (hs : ∀ rest V w c, rest.Nodup → (∀ d ∈ rest, d ∈ C) → I rest V w → c ∈ rest → freeC ops rest c = true → ∃ o, ops[c]? = some o ∧ o.guard = none ∧ StepC P o V (I (rest.erase c)) ((execOp V.eval o).run P w))
    (he : ∀ V w, I [] V w → Q .normal V w) : ∀ n rest V w, rest.length = n → rest.Nodup → (∀ d ∈ rest, d ∈ C) → I rest V w → wpF P ops J Q n rest V w
  | 0, rest, V, w, hl, _, _, h => by
    obtain rfl := List.eq_nil_of_length_eq_zero hl
    exact he V w h
  | n + 1, rest, V, w, hl, hn, hC, h => ⟨hJ _ _ _ h, fun c hc hf => by
    obtain ⟨o, h1, h2, h3⟩ := hs rest V w c hn hC h hc hf
    exact ⟨o, h1, h2, h3.mono fun a w' h' => wpF_inv I C hJ hs he n (rest.erase c) a w' (by rw [List.length_erase_of_mem hc]; omega) (hn.erase c) (fun d hd => hC d (List.mem_of_mem_erase hd)) h'⟩⟩
/-- What a free operation waits for is done. -/
theorem freeC_done {rest : List Nat} {c d : Nat} (hf : freeC ops rest c = true) (hw : Region.waitsFor .any ops c d = true) : d ∉ rest := fun hd => by
  unfold freeC at hf
  have := List.all_eq_true.1 hf d hd
  rw [hw] at this
  cases this
end

/-! ### A region that draws its order, in a round of a loop over an iterator, by a chain -/
theorem wpIn_region_mix {P : Program} {Q : Exit → Act → World → Prop} {lp n : Nat} {l : List Oper} {id : Nat} {a : Act} {w : World} (C : List Nat) (J : World → Prop) (hm : P.follows .mixedOrders = true) (hB : mixOk l.toArray C = true) (hnd : noDefer l.toArray = true) (hLO : ¬ LetsOut Q)
    (h' : ∀ R : Act → Prop, (∀ A, wpC P l.toArray J Q C A w.drew → R A) → wpM P l.toArray J R (beside C l 0) a) : (Code.region id l.toArray true).wpIn (Fence.wide.inRound lp) n P Q a w := by
  have h := h' (fun A => wpC P l.toArray J Q C A w.drew) (fun _ h => h)
  have hM := mixOk_spec hB
  have hget : ∀ o ∈ beside C l 0, ∃ i, i ∉ C ∧ l[i]? = some o := fun o ho => by
    obtain ⟨i, h1, h2⟩ := beside_mem.1 ho
    exact ⟨i, by simpa using h2, h1⟩
  obtain ⟨A, hRA, hsz, hdf, hA, hset⟩ := wpM_settles (P := P) (J := J) (ops := l.toArray) hM.sel (beside C l 0) (fun o ho => by
      obtain ⟨i, _, h1⟩ := hget o ho
      have := List.mem_of_getElem? h1
      simpa using this)
    (by
      refine (beside_pair (C := C) (S := fun i oi j oj => ∀ d, oj.dst = some d → oi.dst ≠ some d ∧ d ∉ oi.looksAt l.toArray) (fun i j oi oj hi hj hij h1 h2 d hd => ?_)).imp (fun ⟨_, _, h⟩ => h)
      have := hM.pure (0 + i) oi (0 + j) oj d (by simpa using hi) (by simpa using hj) h1 hd
      exact ⟨this.1 (by omega), fun hl => by have := (this.2 hl).2.1; omega⟩)
    (fun o ho d hd hl => by
      obtain ⟨i, hiC, hio⟩ := hget o ho
      have := ((hM.pure i o i o d (by simpa using hio) (by simpa using hio) hiC hd).2 hl).2.1
      omega) a h
  refine wpIn_region_draw fun t => ?_
  simp only [Region.schedule, hm, Bool.true_or, if_true]
  refine wpOpsIn_of hnd hLO _ _ _ (wpAny_sound l.toArray.size t _ a _ ?_)
  have hun : unl l.toArray.size (Array.replicate l.toArray.size false) = l.toArray.size := unl_none _ _ (Nat.le_refl _)
  refine mix_step hM l.toArray.size [] C A (Array.replicate l.toArray.size false) a w.drew hun ⟨rfl, by simp, fun c hc => (by cases hc), fun c hc => getD_in (by simpa using hM.lt c hc) (getD_replicate_false _ _), fun j oj _ hl => ?_, hdf.symm, hsz.symm, fun t ht => (hA t (fun o ho hd => ?_)).symm, fun i o hi ho => hset o (beside_mem.2 ⟨i, by simpa using ho, by simpa using hi⟩)⟩ hRA
  · rename_i hoj
    have : j < l.toArray.size := (Array.getElem?_eq_some_iff.1 hoj).1
    have h2 : j < l.length := by simpa using this
    simp [h2] at hl
  · obtain ⟨i, hi, hio⟩ := hget o ho
    have hlt : i < l.length := (List.getElem?_eq_some_iff.1 hio).1
    exact ht i o hi (by simpa using hio) (by simp [hlt]) hd
theorem wpIn_region_mask {P : Program} {Q : Exit → Act → World → Prop} {lp n : Nat} {l : List Oper} {id : Nat} {a : Act} {w : World} (C : List Nat) (mask : List Bool) (J : World → Prop) (hm : P.follows .mixedOrders = true) (hB : (mixOk l.toArray C && mask == maskOf C l.length 0) = true) (hnd : noDefer l.toArray = true) (hLO : ¬ LetsOut Q)
    (h' : ∀ R : Act → Prop, (∀ A, wpC P l.toArray J Q C A w.drew → R A) → wpM P l.toArray J R (marked mask l) a) : (Code.region id l.toArray true).wpIn (Fence.wide.inRound lp) n P Q a w := by
  simp only [Bool.and_eq_true, beq_iff_eq] at hB
  refine wpIn_region_mix C J hm hB.1 hnd hLO (fun R hR => ?_)
  have := h' R hR
  rw [hB.2, marked_eq] at this
  exact this

/-! ### Marks at a return -/
def marksD (Ds : List Nat) : List Deferred := Ds.map fun D => { target := .collected D, args := #[] }
theorem leaves_marks {F : Fence} {n : Nat} {P : Program} {fn : Func} {tmps : Array Value} {R : Ending → World → Prop} (B : Nat) (I : World → Prop) (hI : ∀ W D, B ≤ D → W.heap[D]? = some (.deferred (some [])) → I W → I (W.putObj D (.deferred none))) : ∀ (Ds : List Nat) (u : FrameMode) (W : World), u ≠ .run → Ds.Nodup → (∀ D ∈ Ds, B ≤ D ∧ W.heap[D]? = some (.deferred (some []))) → I W → (∀ W', I W' → LeavesInM F n P fn tmps R [] u W') → LeavesInM F n P fn tmps R (marksD Ds) u W
  | [], _, W, _, _, _, h, he => he W h
  | D :: Ds, u, W, hu, hn, hD, h, he => by
    have h0 := hD D (List.mem_cons_self ..)
    refine ⟨hu, .inl ⟨D, _, rfl, run_takeDeferred h0.2, ?_⟩⟩
    have hn2 := List.nodup_cons.1 hn
    exact leaves_marks B I hI Ds u _ hu hn2.2 (fun D' hD' => ⟨(hD D' (List.mem_cons_of_mem _ hD')).1, (World.putObj_heap_other (fun e => hn2.1 (by rw [← e]; exact hD'))).trans (hD D' (List.mem_cons_of_mem _ hD')).2⟩) (hI W D h0.1 h0.2 h) he

/-! ### Cells of booleans and of steps -/
def boolsC (l : List Bool) : Array Value := (l.map (Value.bool ·)).toArray
theorem boolsC_get {l : List Bool} {i : Nat} (h : i < l.length) : (boolsC l)[i]? = some (.bool (l.getD i false)) := by simp [boolsC, h]
theorem boolsC_set (l : List Bool) (i : Nat) (v : Bool) : (boolsC l).setIfInBounds i (.bool v) = boolsC (l.set i v) := by
  apply Array.ext'
  simp [boolsC, List.map_set]
theorem boolsC_zero (n : Nat) : Array.replicate n (Value.bool false) = boolsC (List.replicate n false) := by
  apply Array.ext'
  simp [boolsC]
def flatS (l : List Stp) : List Value := l.flatMap stpC
def stpsC (l : List Stp) : Array Value := (flatS l).toArray
theorem flatS_cons (x : Stp) (l : List Stp) : flatS (x :: l) = .int .i64 (x.e : Nat) :: .int .i64 (x.to : Nat) :: .int .i64 x.room :: .bool x.fw :: flatS l := rfl
theorem flatS_get : ∀ {l : List Stp} {i : Nat}, i < l.length → (flatS l)[i * 4]? = some (.int .i64 ((getS l i).e : Nat)) ∧ (flatS l)[i * 4 + 1]? = some (.int .i64 ((getS l i).to : Nat)) ∧ (flatS l)[i * 4 + 2]? = some (.int .i64 (getS l i).room) ∧ (flatS l)[i * 4 + 3]? = some (.bool (getS l i).fw)
  | [], _, h => absurd h (Nat.not_lt_zero _)
  | _ :: _, 0, _ => ⟨rfl, rfl, rfl, rfl⟩
  | x :: l, i + 1, h => by
    have := flatS_get (l := l) (i := i) (by simpa using h)
    rw [flatS_cons, show (i + 1) * 4 = i * 4 + 4 by omega]
    exact this
theorem flatS_set : ∀ {l : List Stp} {i : Nat} (x : Stp), i < l.length → ((((flatS l).set (i * 4) (.int .i64 (x.e : Nat))).set (i * 4 + 1) (.int .i64 (x.to : Nat))).set (i * 4 + 2) (.int .i64 x.room)).set (i * 4 + 3) (.bool x.fw) = flatS (l.set i x)
  | [], _, _, h => absurd h (Nat.not_lt_zero _)
  | _ :: _, 0, _, _ => rfl
  | y :: l, i + 1, x, h => by
    have := flatS_set (l := l) (i := i) x (by simpa using h)
    rw [flatS_cons, show (i + 1) * 4 = i * 4 + 4 by omega]
    show Value.int .i64 (y.e : Nat) :: Value.int .i64 (y.to : Nat) :: Value.int .i64 y.room :: Value.bool y.fw :: _ = Value.int .i64 (y.e : Nat) :: Value.int .i64 (y.to : Nat) :: Value.int .i64 y.room :: Value.bool y.fw :: flatS (l.set i x)
    rw [← this]
theorem stpsC_set {l : List Stp} {i : Nat} (x : Stp) (h : i < l.length) : ((((stpsC l).setIfInBounds (i * 4) (.int .i64 (x.e : Nat))).setIfInBounds (i * 4 + 1) (.int .i64 (x.to : Nat))).setIfInBounds (i * 4 + 2) (.int .i64 x.room)).setIfInBounds (i * 4 + 3) (.bool x.fw) = stpsC (l.set i x) := by
  unfold stpsC
  rw [← flatS_set x h]
  simp
theorem flatS_zero : ∀ n, flatS (List.replicate n Stp.zero) = (List.replicate n [Value.int .i64 0, .int .i64 0, .int .i64 0, .bool false]).flatten
  | 0 => rfl
  | n + 1 => by
    rw [List.replicate_succ, List.replicate_succ, List.flatten_cons, flatS_cons, flatS_zero n]
    rfl

/-! ### The plain state -/
def Exp (E : List Ed) (fl : List Int) (seen : List Bool) (v : Nat) : Prop := ∀ x ∈ stpsL E fl v (incL E v).length, seen.getD x.to false = true
theorem seen_set {seen : List Bool} {u v : Nat} (h : seen.getD v false = true) : (seen.set u true).getD v false = true := by
  by_cases e : u = v
  · subst e
    by_cases hl : u < seen.length
    · simp [List.getD_eq_getElem?_getD, hl]
    · rw [List.set_eq_of_length_le (by omega)]; exact h
  · simpa [List.getD_eq_getElem?_getD, List.getElem?_set_ne e] using h
theorem seen_set_inv {seen : List Bool} {u v : Nat} (h : (seen.set u true).getD v false = true) (hne : v ≠ u) : seen.getD v false = true := by
  simpa [List.getD_eq_getElem?_getD, List.getElem?_set_ne (Ne.symm hne)] using h
theorem seen_self {seen : List Bool} {u : Nat} (h : u < seen.length) : (seen.set u true).getD u false = true := by simp [List.getD_eq_getElem?_getD, h]
theorem getS_self {l : List Stp} {u : Nat} {x : Stp} (h : u < l.length) : getS (l.set u x) u = x := by simp [getS, List.getD_eq_getElem?_getD, h]
theorem getS_ne {l : List Stp} {u v : Nat} {x : Stp} (h : u ≠ v) : getS (l.set u x) v = getS l v := by simp [getS, List.getD_eq_getElem?_getD, List.getElem?_set_ne h]
/-- A node more is reached. -/
theorem reach_add {E : List Ed} {fl : List Int} {N s K v : Nat} {seen : List Bool} {by' : List Stp} {rk : Nat → Nat} (h : Reach E fl N s seen by' rk) (hk : ∀ v, v < N → seen.getD v false = true → rk v < K) {x : Stp} (hx : IsStp E fl N v x) (hv : v < N) (sv : seen.getD v false = true) (hn : seen.getD x.to false = false) : Reach E fl N s (seen.set x.to true) (by'.set x.to x) (fun y => if y = x.to then K else rk y) := by
  obtain ⟨h1, h2, h3⟩ := hx
  have hsx : s ≠ x.to := fun e => by rw [← e, h.src] at hn; cases hn
  refine ⟨by rw [List.length_set]; exact h.ls, by rw [List.length_set]; exact h.lb, h.sN, seen_set h.src, fun u hu su us => ?_⟩
  by_cases e : u = x.to
  · subst e
    have hvx : v ≠ x.to := fun e => by rw [← e, sv] at hn; cases hn
    rw [getS_self (by rw [h.lb]; exact h3), h2]
    refine ⟨h1, hv, seen_set sv, ?_⟩
    rw [if_pos rfl, if_neg hvx]
    exact hk v hv sv
  · have su' := seen_set_inv su e
    obtain ⟨a, b, c, d⟩ := h.ok u hu su' us
    rw [getS_ne (Ne.symm e)]
    refine ⟨a, b, seen_set c, ?_⟩
    have hf : frm E (getS by' u) ≠ x.to := fun e2 => by rw [e2, hn] at c; cases c
    rw [if_neg e, if_neg hf]
    exact d
/-- What search keeps to: l lists what was reached, in order; the first dn of them are expanded. -/
structure SeP (E : List Ed) (fl : List Int) (N s t : Nat) (seen : List Bool) (by' : List Stp) (l : List Nat) (dn : Nat) (rk : Nat → Nat) : Prop where
  reach : Reach E fl N s seen by' rk
  ls : ∀ v ∈ l, v < N ∧ seen.getD v false = true
  all : ∀ v, v < N → seen.getD v false = true → v ∈ l
  nd : l.Nodup
  rkl : ∀ v, v < N → seen.getD v false = true → rk v < l.length
  dl : dn ≤ l.length
  done : ∀ i, i < dn → Exp E fl seen (l.getD i 0)
  nots : seen.getD t false = false
theorem SeP.start {E : List Ed} {fl : List Int} {N s t : Nat} (hs : s < N) (hst : s ≠ t) : SeP E fl N s t ((List.replicate N false).set s true) (List.replicate N Stp.zero) [s] 0 (fun _ => 0) := by
  have h0 : ∀ v, (List.replicate N false).getD v false = false := fun v => by
    rw [List.getD_eq_getElem?_getD, List.getElem?_replicate]
    split <;> rfl
  have h1 : ∀ v, ((List.replicate N false).set s true).getD v false = true → v = s := fun v hv => by
    by_cases e : v = s
    · exact e
    · have := seen_set_inv hv e
      rw [h0] at this
      cases this
  have h2 : ((List.replicate N false).set s true).getD s false = true := seen_self (by rw [List.length_replicate]; exact hs)
  refine ⟨⟨by simp, by simp, hs, h2, fun v _ hv vs => absurd (h1 v hv) vs⟩, fun v hv => ?_, fun v _ hv => ?_, by simp, fun _ _ _ => by simp, Nat.zero_le _, fun i hi => absurd hi (Nat.not_lt_zero _), ?_⟩
  · obtain rfl := List.mem_singleton.1 hv
    exact ⟨hs, h2⟩
  · rw [h1 v hv]; exact List.mem_singleton.2 rfl
  · cases h : ((List.replicate N false).set s true).getD t false with
    | false => rfl
    | true => exact absurd (h1 t h).symm hst
theorem SeP.found {E : List Ed} {fl : List Int} {N s t dn v : Nat} {seen : List Bool} {by' : List Stp} {l : List Nat} {rk : Nat → Nat} (h : SeP E fl N s t seen by' l dn rk) {x : Stp} (hx : IsStp E fl N v x) (hv : v ∈ l) (hn : seen.getD x.to false = false) (ht : x.to ≠ t) : SeP E fl N s t (seen.set x.to true) (by'.set x.to x) (l ++ [x.to]) dn (fun y => if y = x.to then l.length else rk y) := by
  have hv2 := h.ls v hv
  refine ⟨reach_add h.reach h.rkl hx hv2.1 hv2.2 hn, fun u hu => ?_, fun u hu su => ?_, ?_, fun u hu su => ?_, by rw [List.length_append]; have := h.dl; omega, fun i hi => ?_, ?_⟩
  · rcases List.mem_append.1 hu with hu | hu
    · exact ⟨(h.ls u hu).1, seen_set (h.ls u hu).2⟩
    · rw [List.mem_singleton.1 hu]
      exact ⟨hx.2.2, seen_self (by rw [h.reach.ls]; exact hx.2.2)⟩
  · by_cases e : u = x.to
    · subst e; exact List.mem_append_right _ (List.mem_singleton.2 rfl)
    · exact List.mem_append_left _ (h.all u hu (seen_set_inv su e))
  · rw [List.nodup_append]
    refine ⟨h.nd, by simp, fun a ha b hb => ?_⟩
    rw [List.mem_singleton.1 hb]
    intro e
    rw [e] at ha
    rw [(h.ls _ ha).2] at hn
    cases hn
  · rw [List.length_append]
    split
    · simp
    · next e => have := h.rkl u hu (seen_set_inv su e); simp; omega
  · have e : i < l.length := Nat.lt_of_lt_of_le hi h.dl
    have := h.done i hi
    rw [List.getD_eq_getElem?_getD, List.getElem?_append_left e, ← List.getD_eq_getElem?_getD]
    exact fun y hy => seen_set (this y hy)
  · cases hc : (seen.set x.to true).getD t false with
    | false => rfl
    | true => have := seen_set_inv hc (Ne.symm ht); rw [h.nots] at this; cases this
/-- Expanded: one more. -/
theorem SeP.expanded {E : List Ed} {fl : List Int} {N s t dn : Nat} {seen : List Bool} {by' : List Stp} {l : List Nat} {rk : Nat → Nat} (h : SeP E fl N s t seen by' l dn rk) (hd : dn < l.length) (he : Exp E fl seen (l.getD dn 0)) : SeP E fl N s t seen by' l (dn + 1) rk :=
  ⟨h.reach, h.ls, h.all, h.nd, h.rkl, hd, fun i hi => by
    by_cases e : i = dn
    · subst e; exact he
    · exact h.done i (by omega), h.nots⟩
/-- All is expanded: the side is shut. -/
theorem SeP.shut {E : List Ed} {fl : List Int} {N s t : Nat} {seen : List Bool} {by' : List Stp} {l : List Nat} {rk : Nat → Nat} (h : SeP E fl N s t seen by' l l.length rk) (hN : ∀ e ∈ E, e.f < N ∧ e.t < N) (hc : ∀ i, i < E.length → 0 ≤ fl.getD i 0 ∧ fl.getD i 0 ≤ (getE E i).c) : Shut E fl (fun v => seen.getD v false) := by
  have hexp : ∀ v, v < N → seen.getD v false = true → Exp E fl seen v := fun v hv sv => by
    obtain ⟨i, hi, rfl⟩ := List.getElem_of_mem (h.all v hv sv)
    have := h.done i hi
    rwa [List.getD_eq_getElem?_getD, List.getElem?_eq_getElem hi] at this
  refine ⟨fun i hi sf st => ?_, fun i hi st sf => ?_⟩
  · have hm := hN _ (getE_mem hi)
    have hci := hc i hi
    by_cases e : fl.getD i 0 = (getE E i).c
    · exact e
    · obtain ⟨x, hx, hxt⟩ := (steps_shut (E := E) (fl := fl) (v := (getE E i).f) rfl hi).1 rfl (by omega)
      have := hexp _ hm.1 sf x hx
      rw [hxt] at this
      rw [this] at st
      cases st
  · have hm := hN _ (getE_mem hi)
    have hci := hc i hi
    by_cases e : fl.getD i 0 = 0
    · exact e
    · by_cases e2 : (getE E i).f = (getE E i).t
      · rw [e2] at sf
        rw [sf] at st
        cases st
      obtain ⟨x, hx, hxt⟩ := (steps_shut (E := E) (fl := fl) (v := (getE E i).t) rfl hi).2 rfl e2 (by omega)
      have := hexp _ hm.2 st x hx
      rw [hxt] at this
      rw [this] at sf
      cases sf
/-- Different numbers below N are at most N. -/
theorem nodup_le : ∀ {N : Nat} {l : List Nat}, l.Nodup → (∀ x ∈ l, x < N) → l.length ≤ N
  | 0, [], _, _ => Nat.le_refl _
  | 0, x :: _, _, h => absurd (h x (List.mem_cons_self ..)) (Nat.not_lt_zero _)
  | N + 1, l, hn, h => by
    have h1 := nodup_le (N := N) (l := l.erase N) (hn.erase N) (fun x hx => by
      have h2 := h x (List.mem_of_mem_erase hx)
      have h3 : x ≠ N := fun e => by
        subst e
        exact (List.Nodup.not_mem_erase hn) hx
      omega)
    by_cases hm : N ∈ l
    · rw [List.length_erase_of_mem hm] at h1; omega
    · rw [List.erase_of_not_mem hm] at h1; omega
end Go.Proofs.Ythgkfdhkmkbioaa
