/- Lemmas of my own that every proof of this seat uses: blocks that are known whole, what a call leaves as it was, and a rule for regions that draw their order. No statement about the program. -/
import Derived.WalkKit
import Derived.WalkSpells
import Derived.WalkLawsBesides
import Derived.BigGuardPart
import Derived.Lib.Hide
import Derived.StillTail
import Derived.Deep.Draws
import Derived.ChangeSame
namespace Go.Proofs.YtmcodendnpjlaaaDoor
open Go.RowKit

/-! ### What a call leaves -/

/-- The call returns v, and nothing that was there has changed. -/
def Ret (v : Value) (w : World) (e : Ending) (w' : World) : Prop := e = .returned v ∧ Below w.heap.size w w'

theorem Ret.mk {v : Value} {w w' : World} (h : Below w.heap.size w w') : Ret v w (.returned v) w' := ⟨rfl, h⟩
theorem Ret.same {v : Value} {w : World} : Ret v w (.returned v) w := ⟨rfl, Below.refl _ _⟩

theorem below_step {w w1 w2 : World} (h : Below w.heap.size w w1) (h2 : Below w1.heap.size w1 w2) : Below w.heap.size w w2 :=
  h.trans (h2.mono h.size)

theorem below_alloc {w w1 : World} (h : Below w.heap.size w w1) (o : Obj) : Below w.heap.size w (w1.alloc o) := h.alloc h.size o

theorem below_drewN {B : Nat} {a w : World} (h : Below B a w) (n : Nat) : Below B a (w.drewN n) := ⟨h.os, h.tape, h.output, h.size, h.block⟩

/-! ### The row's last step -/
section
open Go.WideShapes Go.ChangeShapes
variable {H : Type} {enc : TypeId × Value → H} {P : Program}
/-- A call that leaves all that was there as it was meets the row's post, if its results and arguments read as the row says. -/
theorem post_of_below {f : Func} {s : ChangeSpec} {apart fresh handsOn again : Bool} {W W' : World} {args : Array Value} {v : Value} {ds gs : List (DataW H)} {before pa pv : List MemPlace}
    (hW : DataW.Whole enc P f.params.toList s.vars apart W args.toList ds gs before)
    (hres : ∀ (b : Nat) (sp : Nat → Bool) (hd : Bool), DataW.TrodAll enc P W' b sp hd f.resultTypes.toList (v.resultList f.resultTypes.size) (s.fn H (ds ++ gs)).results [])
    (hargs : ∀ sp : Nat → Bool, (∀ p ∈ before, sp p.block = true) → DataW.TrodAll enc P W' 0 sp true f.params.toList args.toList (s.fn H (ds ++ gs)).args pa)
    (hvars : ∀ sp : Nat → Bool, (∀ p ∈ before, sp p.block = true) → DataW.TrodVars enc P W' sp s.vars (s.fn H (ds ++ gs)).vars pv)
    (hps : before = pa ++ pv) (hb : Below W.heap.size W W')
    (hok : ∀ (j : Nat) (t : TypeId) (r : Value), f.resultTypes[j]? = some t → (v.resultList f.resultTypes.size)[j]? = some r → Value.okWide P W' .any 0 t r) :
    s.post enc P f apart fresh handsOn again W args v W' := by
  have low : ∀ p ∈ before, p.block < W.heap.size := fun p hp => hW.lt p hp
  have old : ∀ p ∈ before, (fun b => decide (b < W.heap.size)) p.block = true := fun p hp => by simpa using low p hp
  refine ⟨ds, gs, before, [], pa, pv, hW, hres _ _ _, hargs _ old, hvars _ old, World.keptBut_mono (fun p hp => ⟨hp, ?_⟩) (hb.frame (· ∈ before)), fun _ => ?_⟩
  · rw [hps, List.mem_append] at hp
    exact .inr hp
  · obtain ⟨_, _, _, _, _, hz, hn⟩ := hW
    refine ⟨hok, _, _, ([] ++ pa) ++ pv, ⟨[] ++ pa, pv, trodAll_append (hargs _ (fun _ _ => rfl)) (hres _ _ _), hvars _ (fun _ _ => rfl), rfl, ?_, ?_⟩, ?_⟩
    · intro b off hp
      have hin : MemPlace.cell b off ∈ before := by rw [hps]; simpa using hp
      rw [hb.frozen (low _ hin)]
      exact hz b off hin
    · intro ha
      have := hn ha
      rw [hps] at this
      simpa using this
    · intro p hp _
      rw [hps]
      simpa using hp
end

/-! ### A block that is known whole -/

def Blk (w : World) (g : Nat) (t : TypeId) (cs : Array Value) : Prop := w.heap[g]? = some (.cells cs t (0, 0))

section
variable {w w' : World} {g : Nat} {t : TypeId} {cs : Array Value}

theorem Blk.lt (h : Blk w g t cs) : g < w.heap.size := by
  unfold Blk at h
  exact (Array.getElem?_eq_some_iff.1 h).1

theorem Blk.cell (h : Blk w g t cs) (i : Nat) : w.cell? ⟨g, i, none⟩ = cs[i]? := by
  unfold Blk at h
  simp [World.cell?, h]

theorem Blk.frozen (h : Blk w g t cs) (i : Nat) : w.frozen? ⟨g, i, none⟩ = false := by
  unfold Blk at h
  simp [World.frozen?, h]

theorem Blk.new (w : World) (t : TypeId) (cs : Array Value) : Blk (w.alloc (.cells cs t)) w.heap.size t cs := heap_alloc_new w _

theorem Blk.alloc (h : Blk w g t cs) (o : Obj) : Blk (w.alloc o) g t cs := (Below.heap_alloc w o g h.lt).trans h

theorem Blk.drewN (h : Blk w g t cs) (n : Nat) : Blk (w.drewN n) g t cs := h
theorem Blk.drew (h : Blk w g t cs) : Blk w.drew g t cs := h

theorem Blk.set (h : Blk w g t cs) (i : Nat) (u : Value) : Blk (w.setCell ⟨g, i, none⟩ u) g t (cs.setIfInBounds i u) := by
  unfold Blk at h ⊢
  simp [World.setCell, Array.getElem?_modify, h]

theorem Blk.other (h : Blk w g t cs) {p : Addr} (hp : g ≠ p.block) (u : Value) : Blk (w.setCell p u) g t cs := (Below.heap_setCell w p u g hp).trans h

theorem Blk.below {B : Nat} (h : Blk w g t cs) (hb : Below B w w') (hg : g < B) : Blk w' g t cs := (hb.block g hg).trans h

theorem Blk.later (h : Blk w g t cs) (hb : Below w.heap.size w w') : Blk w' g t cs := h.below hb h.lt
end

/-! ### A region that draws its order: operations that yield the same in every world that meets a condition -/

/-- The operation comes to the value v, and the condition is kept. -/
def Gives (P : Program) (Inv : World → Prop) (v : Value) : Result Next → Prop
  | .ok (.value u) w' => u = v ∧ Inv w'
  | .ok .skip w' => v = undef ∧ Inv w'
  | .ok (.enter f args) w' => Calls P f args w' (fun e w'' => e = .returned v ∧ Inv w'')
  | _ => False

def YieldsInv (P : Program) (Inv : World → Prop) (o : Oper) (v : Value) (a : Act) : Prop :=
  ∀ w, Inv w → Gives P Inv v ((execOp a.eval o).run P w)

/-- The operations of the list, in the text's order, each run in whatever world meets the condition. -/
def wpInv (P : Program) (ops : Array Oper) (Inv : World → Prop) (R : Act → Prop) : List Oper → Act → Prop
  | [], a => R a
  | o :: rest, a =>
    if Region.wanted o (yielded ops a.tmps) then ∃ v, YieldsInv P Inv o v a ∧ wpInv P ops Inv R rest (a.put o.dst v)
    else wpInv P ops Inv R rest (a.put o.dst undef)

/-- At the frame A the operation leaves the frame as it is. -/
def Settled (P : Program) (ops : Array Oper) (Inv : World → Prop) (o : Oper) (A : Act) : Prop :=
  (Region.wanted o (yielded ops A.tmps) = true → ∃ v, YieldsInv P Inv o v A ∧ A.put o.dst v = A) ∧
  (Region.wanted o (yielded ops A.tmps) = false → A.put o.dst undef = A)

/-- What the table of the region must be: no select; an operation reads no slot that it or a later one of the first n writes, and waits for those of the first n whose slot it reads; two of the first n write different slots; each waits only for earlier ones. -/
def invOk (ops : Array Oper) (n : Nat) : Bool :=
  Region.noSelect ops && decide (n ≤ ops.size) &&
  (List.range ops.size).all fun i => match ops[i]? with
    | none => true
    | some oi =>
      (oi.after.all fun e => !Region.binds .any e || decide (e.on < i)) &&
      (decide (n ≤ i) || (List.range n).all fun j => match ops[j]? with
        | none => true
        | some oj => match oj.dst with
          | none => true
          | some d =>
            (decide (i = j) || oi.dst != some d) &&
            (!(oi.looksAt ops).contains d || (decide (j < i) && Region.waitsFor .any ops i j)))

section
variable {P : Program} {ops : Array Oper} {Inv : World → Prop}

theorem eval_of_agree {a A : Act} {o : Oper} (h : ∀ t ∈ o.looksAt ops, a.tmps[t]? = A.tmps[t]?) :
    ∀ x ∈ o.op.operands, a.eval x = A.eval x := by
  intro x hx
  cases x with
  | tmp t =>
    have : t ∈ o.looksAt ops := List.mem_append_left _ (List.mem_filterMap.2 ⟨.tmp t, by simpa using hx, rfl⟩)
    have := h t this
    simp [Act.eval, this]
  | _ => rfl

theorem exec_of_agree {a A : Act} {o : Oper} (hs : ∀ cs b, o.op ≠ .select cs b) (h : ∀ t ∈ o.looksAt ops, a.tmps[t]? = A.tmps[t]?) :
    execOp a.eval o = execOp A.eval o := execOp_congr o hs (eval_of_agree h)

theorem wanted_of_agree {a A : Act} {o : Oper} (h : ∀ t ∈ o.looksAt ops, a.tmps[t]? = A.tmps[t]?) :
    Region.wanted o (yielded ops a.tmps) = Region.wanted o (yielded ops A.tmps) := by
  unfold Region.wanted
  cases hg : o.guard with
  | none => rfl
  | some gw =>
    obtain ⟨g, want⟩ := gw
    have : yielded ops a.tmps g = yielded ops A.tmps g := by
      unfold yielded
      cases ht : (ops[g]?).bind (·.dst) with
      | none => rfl
      | some t =>
        have hm : t ∈ o.looksAt ops := List.mem_append_right _ (by simp [hg, ht])
        have := h t hm
        simp [this]
    simp only [this]

theorem put_get_ne {a : Act} {dst : Option Tmp} {v : Value} {t : Tmp} (h : dst ≠ some t) : (a.put dst v).tmps[t]? = a.tmps[t]? := by
  cases dst with
  | none => rfl
  | some d =>
    have : d ≠ t := fun e => h (e ▸ rfl)
    simp [Act.put, Array.getElem?_setIfInBounds_ne this]

theorem put_self {a A : Act} {dst : Option Tmp} {v : Value} (h : ∀ d, dst = some d → A.tmps[d]? = (a.put dst v).tmps[d]?) (hsz : A.tmps.size = a.tmps.size) : A.put dst v = A := by
  cases dst with
  | none => rfl
  | some d =>
    have h1 := h d rfl
    have e : A.tmps.setIfInBounds d v = A.tmps := by
      apply Array.ext_getElem?
      intro i
      by_cases hi : d = i
      · subst hi
        by_cases hlt : d < A.tmps.size
        · have hlt' : d < a.tmps.size := hsz ▸ hlt
          simp only [Act.put, Array.getElem?_setIfInBounds, if_pos hlt', if_true] at h1
          simp only [Array.getElem?_setIfInBounds, if_pos hlt, if_true]
          exact h1.symm
        · rw [Array.getElem?_setIfInBounds]
          simp [hlt]
      · rw [Array.getElem?_setIfInBounds_ne hi]
    show ({ A with tmps := A.tmps.setIfInBounds d v } : Act) = A
    rw [e]

theorem put_size {a : Act} {dst : Option Tmp} {v : Value} : (a.put dst v).tmps.size = a.tmps.size := by
  cases dst <;> simp [Act.put]
theorem put_defers' {a : Act} {dst : Option Tmp} {v : Value} : (a.put dst v).defers = a.defers := by
  cases dst <;> rfl

/-- The walk in the text's order gives the frame at the end, at which every operation is settled. -/
theorem wpInv_settles {R : Act → Prop} (hsel : ∀ o ∈ ops.toList, ∀ cs b, o.op ≠ .select cs b) :
    ∀ (l : List Oper), (∀ o ∈ l, o ∈ ops.toList) →
      (l.Pairwise fun o o' => ∀ d, o'.dst = some d → o.dst ≠ some d ∧ d ∉ o.looksAt ops) → (∀ o ∈ l, ∀ d, o.dst = some d → d ∉ o.looksAt ops) →
      ∀ a, wpInv P ops Inv R l a → ∃ A, R A ∧ A.tmps.size = a.tmps.size ∧ A.defers = a.defers ∧
        (∀ t, (∀ o ∈ l, o.dst ≠ some t) → A.tmps[t]? = a.tmps[t]?) ∧ ∀ o ∈ l, Settled P ops Inv o A := by
  intro l
  induction l with
  | nil => intro _ _ _ a h; exact ⟨a, h, rfl, rfl, fun _ _ => rfl, fun o ho => by cases ho⟩
  | cons o rest ih =>
    intro hmem hpw hown a h
    rw [List.pairwise_cons] at hpw
    have hlook : ∀ {A : Act} {v : Value}, (∀ t, (∀ o' ∈ rest, o'.dst ≠ some t) → A.tmps[t]? = (a.put o.dst v).tmps[t]?) → ∀ t ∈ o.looksAt ops, a.tmps[t]? = A.tmps[t]? := by
      intro A v hA t ht
      have h1 : ∀ o' ∈ rest, o'.dst ≠ some t := fun o' ho' hd => (hpw.1 o' ho' t hd).2 ht
      rw [hA t h1, put_get_ne]
      intro hd
      exact hown o (List.mem_cons_self ..) t hd ht
    have hself : ∀ {A : Act} {v : Value}, A.tmps.size = (a.put o.dst v).tmps.size → (∀ t, (∀ o' ∈ rest, o'.dst ≠ some t) → A.tmps[t]? = (a.put o.dst v).tmps[t]?) → A.put o.dst v = A := by
      intro A v hsz hA
      refine put_self (a := a) (fun d hd => ?_) (by rw [hsz, put_size])
      exact hA d (fun o' ho' hd' => (hpw.1 o' ho' d hd').1 hd)
    unfold wpInv at h
    split at h
    · rename_i hw
      obtain ⟨v, hy, hr⟩ := h
      obtain ⟨A, hRA, hsz, hdf, hA, hset⟩ := ih (fun o' ho' => hmem o' (List.mem_cons_of_mem _ ho')) hpw.2 (fun o' ho' => hown o' (List.mem_cons_of_mem _ ho')) _ hr
      have hl := hlook hA
      have he := exec_of_agree (ops := ops) (hsel o (hmem o (List.mem_cons_self ..))) hl
      have hwn := wanted_of_agree (ops := ops) hl
      refine ⟨A, hRA, by rw [hsz, put_size], by rw [hdf, put_defers'], fun t ht => ?_, fun o' ho' => ?_⟩
      · rw [hA t (fun o' ho' => ht o' (List.mem_cons_of_mem _ ho')), put_get_ne (ht o (List.mem_cons_self ..))]
      · rcases List.mem_cons.1 ho' with rfl | ho'
        · refine ⟨fun _ => ⟨v, ?_, hself hsz hA⟩, fun hf => ?_⟩
          · intro w hInv
            rw [← he]
            exact hy w hInv
          · rw [← hwn, hw] at hf; cases hf
        · exact hset o' ho'
    · rename_i hw
      obtain ⟨A, hRA, hsz, hdf, hA, hset⟩ := ih (fun o' ho' => hmem o' (List.mem_cons_of_mem _ ho')) hpw.2 (fun o' ho' => hown o' (List.mem_cons_of_mem _ ho')) _ h
      have hl := hlook hA
      have hwn := wanted_of_agree (ops := ops) hl
      refine ⟨A, hRA, by rw [hsz, put_size], by rw [hdf, put_defers'], fun t ht => ?_, fun o' ho' => ?_⟩
      · rw [hA t (fun o' ho' => ht o' (List.mem_cons_of_mem _ ho')), put_get_ne (ht o (List.mem_cons_self ..))]
      · rcases List.mem_cons.1 ho' with rfl | ho'
        · refine ⟨fun hf => ?_, fun _ => hself hsz hA⟩
          rw [← hwn] at hf; exact absurd hf hw
        · exact hset o' ho'

/-! ### The order that is drawn -/

theorem countP_drop {l : List Nat} (hn : l.Nodup) {i : Nat} (hi : i ∈ l) {p q : Nat → Bool} (hp : p i = true) (hq : q i = false) (h : ∀ x, x ≠ i → q x = p x) : l.countP p = l.countP q + 1 := by
  induction l with
  | nil => cases hi
  | cons x l ih =>
    rw [List.nodup_cons] at hn
    by_cases hx : x = i
    · subst hx
      have : l.countP p = l.countP q := by
        apply List.countP_congr
        intro y hy
        have : y ≠ x := fun e => hn.1 (e ▸ hy)
        rw [h y this]
      simp [hp, hq, this]
    · have hi' : i ∈ l := (List.mem_cons.1 hi).resolve_left (fun e => hx e.symm)
      have := ih hn.2 hi'
      simp only [List.countP_cons, this, h x hx]
      omega

def unl (n : Nat) (listed : Array Bool) : Nat := (List.range n).countP fun i => !listed.getD i true

theorem unl_set {n i : Nat} {listed : Array Bool} (hi : i < n) (hu : listed.getD i true = false) : unl n listed = unl n (listed.setIfInBounds i true) + 1 := by
  refine countP_drop List.nodup_range (List.mem_range.2 hi) (by simp only [hu]; rfl) ?_ ?_
  · have hs : i < listed.size := by
      rcases Nat.lt_or_ge i listed.size with h | h
      · exact h
      · simp [Array.getElem?_eq_none h] at hu
    simp [hs]
  · intro x hx
    rw [getD_set_ne true (Ne.symm hx)]

def finL (m n : Nat) : Array Bool := ((List.range m).map fun i => decide (i < n)).toArray

def orderOk (ops : Array Oper) (n : Nat) : Bool :=
  invOk ops n && (decide (n = ops.size) || (Region.sinkB .any ops n && Region.chainB .any ops n)) && Region.seqB .any ops (ops.size - n) n (finL ops.size n)

theorem invOk_spec {n : Nat} (h : invOk ops n = true) : (∀ o ∈ ops.toList, ∀ cs b, o.op ≠ .select cs b) ∧ n ≤ ops.size ∧
    (∀ (i : Nat) (oi : Oper), ops[i]? = some oi → ∀ e ∈ oi.after, Region.binds .any e = true → e.on < i) ∧
    (∀ (i : Nat) (oi : Oper) (j : Nat) (oj : Oper) (d : Tmp), ops[i]? = some oi → ops[j]? = some oj → i < n → j < n → oj.dst = some d → (i ≠ j → oi.dst ≠ some d) ∧ (d ∈ oi.looksAt ops → j < i ∧ Region.waitsFor .any ops i j = true)) := by
  unfold invOk at h
  simp only [Bool.and_eq_true, decide_eq_true_eq] at h
  obtain ⟨⟨h1, h2⟩, h3⟩ := h
  rw [List.all_eq_true] at h3
  refine ⟨fun o ho cs b => ?_, h2, fun i oi hi e he hbd => ?_, fun i oi j oj d hi hj hin hjn hd => ?_⟩
  · obtain ⟨k, hk⟩ := List.getElem?_of_mem ho
    exact Region.noSelect_spec h1 k o cs b (by simpa using hk)
  · have := h3 i (List.mem_range.2 (Array.getElem?_eq_some_iff.1 hi).1)
    simp only [hi, Bool.and_eq_true] at this
    have := (Array.all_eq_true_iff_forall_mem.1 this.1) e he
    simpa [hbd] using this
  · have := h3 i (List.mem_range.2 (Array.getElem?_eq_some_iff.1 hi).1)
    simp only [hi, Bool.and_eq_true, Bool.or_eq_true, decide_eq_true_eq] at this
    have h4 := this.2.resolve_left (by omega)
    rw [List.all_eq_true] at h4
    have h5 := h4 j (List.mem_range.2 hjn)
    simp only [hj, hd, Bool.and_eq_true, Bool.or_eq_true, decide_eq_true_eq, bne_iff_ne, Bool.not_eq_true', List.contains_eq_mem, decide_eq_false_iff_not] at h5
    refine ⟨fun hne => h5.1.resolve_left hne, fun hl => ?_⟩
    exact h5.2.resolve_left (fun hc => hc hl)

structure Upto (ops : Array Oper) (n : Nat) (A : Act) (listed : Array Bool) (a : Act) : Prop where
  head : HeadInv .any ops n listed
  dfs : a.defers = A.defers
  sz : a.tmps.size = A.tmps.size
  agree : ∀ t, (∀ j oj, j < n → ops[j]? = some oj → listed.getD j true = false → oj.dst ≠ some t) → a.tmps[t]? = A.tmps[t]?

theorem wpAny_inv {n : Nat} {A : Act} {Q : Exit → Act → World → Prop} (hB : orderOk ops n = true) (hset : ∀ i o, i < n → ops[i]? = some o → Settled P ops Inv o A)
    (hR : ∀ w, Inv w → wpList P ops Q (ops.toList.drop n) A w) :
    ∀ (m : Nat) (listed : Array Bool) (a : Act) (w : World), unl n listed = m → Upto ops n A listed a → Inv w → wpAny P .any ops Q (m + (ops.size - n)) listed a w := by
  simp only [orderOk, Bool.and_eq_true, Bool.or_eq_true, decide_eq_true_eq] at hB
  obtain ⟨⟨hI, hT⟩, hseq⟩ := hB
  obtain ⟨hsel, hnle, hback, hdis⟩ := invOk_spec hI
  intro m
  induction m with
  | zero =>
    intro listed a w hm hU hInv
    have hall : ∀ i, i < n → listed.getD i true = true := by
      intro i hi
      unfold unl at hm
      rw [List.countP_eq_zero] at hm
      have := hm i (List.mem_range.2 hi)
      simpa using this
    have ha : a = A := by
      have h1 : a.tmps = A.tmps := by
        apply Array.ext_getElem?
        intro t
        refine hU.agree t (fun j oj hj _ hun => ?_)
        rw [hall j hj] at hun; cases hun
      have h2 := hU.dfs
      cases a; cases A; simp_all
    have hl : listed = finL ops.size n := by
      apply Array.ext_getElem?
      intro i
      rcases Nat.lt_or_ge i ops.size with hi | hi
      · have hi' : i < listed.size := by rw [hU.head.size]; exact hi
        by_cases hin : i < n
        · have := hall i hin
          simp [hi'] at this
          simp [finL, hi, hi', hin, this]
        · have := hU.head.tail i (by omega) hi
          simp [hi'] at this
          simp [finL, hi, hi', hin, this]
      · have hi' : listed.size ≤ i := by rw [hU.head.size]; exact hi
        simp [finL, hi, hi']
    subst ha
    subst hl
    have := wpAny_of_seq (P := P) (md := .any) (Q' := Q) (ops.toList.drop n) n (finL ops.size n) a w (fun j => by simp [List.getElem?_drop]) (by simpa using hseq) (hR w hInv)
    simpa using this
  | succ m ih =>
    intro listed a w hm hU hInv
    have hex : ∃ i, i < n ∧ listed.getD i true = false := by
      have : 0 < unl n listed := by omega
      unfold unl at this
      rw [List.countP_pos_iff] at this
      obtain ⟨i, hi, h⟩ := this
      exact ⟨i, List.mem_range.1 hi, by simpa using h⟩
    have hsmall : ∀ k i, i ≤ k → i < n → listed.getD i true = false → ∃ j, j ∈ Region.ready .any ops listed := by
      intro k
      induction k with
      | zero =>
        intro i hi hin hun
        have hlt : i < ops.size := by omega
        refine ⟨i, mem_ready.2 ⟨hun, ops[i], by simp [hlt], fun e he hbd => ?_⟩⟩
        have := hback i ops[i] (by simp [hlt]) e he hbd
        omega
      | succ k ihk =>
        intro i hi hin hun
        have hlt : i < ops.size := by omega
        by_cases hex2 : ∃ e ∈ (ops[i]).after, Region.binds .any e = true ∧ listed.getD e.on false = false
        · obtain ⟨e, he, hbd, hf⟩ := hex2
          have hlt2 := hback i ops[i] (by simp [hlt]) e he hbd
          exact ihk e.on (by omega) (by omega) (getD_in (by rw [hU.head.size]; omega) hf)
        · refine ⟨i, mem_ready.2 ⟨hun, ops[i], by simp [hlt], fun e he hbd => ?_⟩⟩
          cases hf : listed.getD e.on false with
          | true => rfl
          | false => exact absurd ⟨e, he, hbd, hf⟩ hex2
    obtain ⟨i0, hi0, hun0⟩ := hex
    obtain ⟨j0, hj0⟩ := hsmall i0 i0 (Nat.le_refl _) hi0 hun0
    rw [show m + 1 + (ops.size - n) = (m + (ops.size - n)) + 1 by omega]
    refine ⟨fun h => (by rw [h] at hj0; cases hj0), fun i hi => ?_⟩
    obtain ⟨hiun, oi, hoi, hall⟩ := mem_ready.1 hi
    have hin : i < n := by
      rcases Nat.lt_or_ge i n with h | h
      · exact h
      · have hilt := (Array.getElem?_eq_some_iff.1 hoi).1
        rcases hT with hT | ⟨hs, hc⟩
        · omega
        · exact absurd hi (tail_waits hs hc (by omega) hU.head _ i0 rfl hi0 hun0 i h)
    have hag : ∀ t ∈ oi.looksAt ops, a.tmps[t]? = A.tmps[t]? := by
      intro t ht
      refine hU.agree t (fun j oj hj hoj hun hd => ?_)
      obtain ⟨_, h2⟩ := hdis i oi j oj t hoi hoj hin hj hd
      obtain ⟨hji, hwf⟩ := h2 ht
      obtain ⟨o', ho', e, he, hb, hon⟩ := Region.waitsFor_spec hwf
      have : o' = oi := Option.some.inj (ho'.symm.trans hoi)
      subst this
      have h3 := hall e he hb
      rw [hon, getD_both hun] at h3
      cases h3
    have he := exec_of_agree (ops := ops) (hsel oi (by
      have := Array.mem_of_getElem? hoi
      simpa using this)) hag
    have hwn := wanted_of_agree (ops := ops) hag
    have hU' : ∀ v, A.put oi.dst v = A → Upto ops n A (listed.setIfInBounds i true) (a.put oi.dst v) := by
      intro v hv
      refine ⟨hU.head.set hi hin, by rw [put_defers']; exact hU.dfs, by rw [put_size]; exact hU.sz, fun t ht => ?_⟩
      by_cases hd : oi.dst = some t
      · rw [← hv, hd]
        by_cases hlt : t < a.tmps.size
        · have hlt' : t < A.tmps.size := by rw [← hU.sz]; exact hlt
          simp [Act.put, hlt, hlt']
        · have hlt' : ¬ t < A.tmps.size := by rw [← hU.sz]; exact hlt
          simp [Act.put, hlt, hlt']
      · rw [put_get_ne hd]
        refine hU.agree t (fun j oj hj hoj hun hdj => ?_)
        by_cases hji : j = i
        · subst hji
          have : oj = oi := Option.some.inj (hoj.symm.trans hoi)
          subst this
          exact hd hdj
        · exact ht j oj hj hoj (by rw [getD_set_ne true (Ne.symm hji)]; exact hun) hdj
    have hun' : unl n (listed.setIfInBounds i true) = m := by
      have := unl_set hin hiun
      omega
    have hS := hset i oi hin hoi
    unfold wpOp
    simp only [hoi]
    by_cases hw : Region.wanted oi (yielded ops A.tmps) = true
    · obtain ⟨v, hy, hv⟩ := hS.1 hw
      rw [hwn, if_pos hw]
      refine .inl ?_
      unfold Oper.wp
      rw [he]
      have hg := hy w hInv
      generalize (execOp A.eval oi).run P w = r at hg
      cases r with
      | halt x w' => exact hg.elim
      | ok nx w' =>
        cases nx <;> simp only [Gives] at hg <;> simp only [Oper.upon]
        case value u =>
          obtain ⟨rfl, hI'⟩ := hg
          exact ih _ _ _ hun' (hU' _ hv) hI'
        case skip =>
          obtain ⟨rfl, hI'⟩ := hg
          exact ih _ _ _ hun' (hU' _ hv) hI'
        case enter f args =>
          refine Calls.mono hg (fun e w'' ⟨hee, hI'⟩ => ?_)
          subst hee
          exact ih _ _ _ hun' (hU' _ hv) hI'
    · have hw' : Region.wanted oi (yielded ops A.tmps) = false := by simpa using hw
      rw [hwn, if_neg hw]
      exact ih _ _ _ hun' (hU' _ (hS.2 hw')) hInv

/-- THE RULE: the first n operations of a region that draws its order, each of which yields the same value in every world that meets Inv, and keeps Inv; then the others, in the text's order. -/
theorem wp_region_inv {id : Nat} {Q : Exit → Act → World → Prop} {a : Act} {w : World} {l : List Oper} (n : Nat) (Inv : World → Prop) (hm : P.follows .mixedOrders = true) (hB : orderOk l.toArray n = true)
    (h0 : Inv w.drew) (h' : ∀ R : Act → Prop, (∀ A, (∀ w', Inv w' → wpList P l.toArray Q (l.drop n) A w') → R A) → wpInv P l.toArray Inv R (l.take n) a) : (Code.region id l.toArray true).wp P Q a w := by
  have h := h' (fun A => ∀ w', Inv w' → wpList P l.toArray Q (l.drop n) A w') (fun _ h => h)
  have hB' := hB
  simp only [orderOk, Bool.and_eq_true] at hB'
  obtain ⟨hsel, hnle, hback, hdis⟩ := invOk_spec hB'.1.1
  have hget : ∀ o ∈ l.take n, ∃ i, i < n ∧ l[i]? = some o := by
    intro o ho
    obtain ⟨i, hi⟩ := List.getElem?_of_mem ho
    have hlt : i < n := by
      rw [List.getElem?_take] at hi
      split at hi
      · assumption
      · cases hi
    exact ⟨i, hlt, by rw [List.getElem?_take_of_lt hlt] at hi; exact hi⟩
  obtain ⟨A, hRA, hsz, hdf, hA, hset⟩ := wpInv_settles (P := P) (Inv := Inv) (ops := l.toArray) (by simpa using hsel) (l.take n) (fun o ho => by simpa using List.mem_of_mem_take ho) (by
      rw [List.pairwise_iff_getElem]
      intro i j hi hj hij d hd
      have hi' : i < n ∧ i < l.length := by rw [List.length_take] at hi; omega
      have hj' : j < n ∧ j < l.length := by rw [List.length_take] at hj; omega
      have e1 : (l.take n)[i] = l[i]'hi'.2 := by simp
      have e2 : (l.take n)[j] = l[j]'hj'.2 := by simp
      rw [e2] at hd
      rw [e1]
      have := hdis i (l[i]'hi'.2) j (l[j]'hj'.2) d (by simp [hi'.2]) (by simp [hj'.2]) hi'.1 hj'.1 hd
      exact ⟨this.1 (by omega), fun hl => by have := (this.2 hl).1; omega⟩) (by
      intro o ho d hd hl
      obtain ⟨i, hi, hio⟩ := hget o ho
      have := (hdis i o i o d (by simpa using hio) (by simpa using hio) hi hi hd).2 hl
      omega) a h
  refine wp_region_any hm ?_
  have hun : unl n (Array.replicate l.toArray.size false) = n := by
    unfold unl
    rw [List.countP_eq_length.2, List.length_range]
    intro i hi
    have : i < l.toArray.size := by have := List.mem_range.1 hi; omega
    have h2 : i < l.length := by simpa using this
    simp [h2]
  have := wpAny_inv (P := P) (Inv := Inv) (Q := Q) (A := A) hB (fun i o hi ho => hset o (by
      refine List.mem_of_getElem? (i := i) ?_
      rw [List.getElem?_take_of_lt hi]; simpa using ho)) (by simpa using hRA) n (Array.replicate l.toArray.size false) a w.drew hun
    ⟨⟨by simp, fun j oj _ hl => (by rw [getD_replicate_false] at hl; cases hl), fun t _ ht => getD_in (by simpa using ht) (getD_replicate_false _ _)⟩, hdf.symm, hsz.symm, fun t ht => (hA t (fun o ho hd => by
      obtain ⟨i, hi, hio⟩ := hget o ho
      have hlt : i < l.length := (List.getElem?_eq_some_iff.1 hio).1
      exact ht i o hi (by simpa using hio) (by simp [hlt]) hd)).symm⟩ h0
  have hnl : n ≤ l.toArray.size := hnle
  rw [show n + (l.toArray.size - n) = l.toArray.size by omega] at this
  exact this

section
variable {R : Act → Prop} {a : Act} {o : Oper} {rest : List Oper}
theorem wpInv_nil (h : R a) : wpInv P ops Inv R [] a := h
theorem wpInv_val {v : Value} (hw : Region.wanted o (yielded ops a.tmps) = true) (h : ∀ w, Inv w → (execOp a.eval o).run P w = .ok (.value v) w)
    (hr : wpInv P ops Inv R rest (a.put o.dst v)) : wpInv P ops Inv R (o :: rest) a := by
  unfold wpInv
  rw [if_pos hw]
  exact ⟨v, fun w hI => by rw [h w hI]; exact ⟨rfl, hI⟩, hr⟩
theorem wpInv_move {dst : Option Tmp} {x : Operand} {ty : TypeId} {pos : String} {after : Array Edge} {gd : Option (Nat × Bool)}
    (hw : Region.wanted ⟨dst, .move x, ty, pos, after, gd⟩ (yielded ops a.tmps) = true)
    (hr : wpInv P ops Inv R rest (a.put dst (a.eval x))) : wpInv P ops Inv R (⟨dst, .move x, ty, pos, after, gd⟩ :: rest) a :=
  wpInv_val hw (fun _ _ => rfl) hr
theorem wpInv_call {v : Value} (f : FuncId) (args : Array Value) (hw : Region.wanted o (yielded ops a.tmps) = true) (h : ∀ w, (execOp a.eval o).run P w = .ok (.enter f args) w)
    (hc : ∀ w, Inv w → Calls P f args w (fun e w' => e = .returned v ∧ Inv w'))
    (hr : wpInv P ops Inv R rest (a.put o.dst v)) : wpInv P ops Inv R (o :: rest) a := by
  unfold wpInv
  rw [if_pos hw]
  exact ⟨v, fun w hI => by rw [h w]; exact hc w hI, hr⟩
theorem wpInv_skip (hw : Region.wanted o (yielded ops a.tmps) = false) (hr : wpInv P ops Inv R rest (a.put o.dst undef)) : wpInv P ops Inv R (o :: rest) a := by
  unfold wpInv
  rw [hw]
  exact hr
end
end

end Go.Proofs.YtmcodendnpjlaaaDoor
