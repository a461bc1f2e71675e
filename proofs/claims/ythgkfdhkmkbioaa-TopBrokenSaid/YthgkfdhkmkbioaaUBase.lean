/- Lemmas of my own on memory, rows, drawn regions and iterators. No statement about the program. -/
import Derived.WalkKit
import Derived.WalkSpells
import Derived.WalkLawsBesides
import Derived.BigGuardPart
import Derived.Lib.Hide
import Derived.StillTail
import Derived.Deep.Draws
import Derived.ChangeSame
import Derived.Laws.AppendOwn
import Derived.Laws.OwnMore
import Derived.Maps.AppendAt
import Derived.Handy
import Derived.ProofKit
import Derived.OpenShut
import Derived.Lib.SmallJoins
import Derived.Deep.Slices
import Derived.Deep.Fields
import Derived.OwnWalk
import Derived.ArgAppend
import Derived.RangeFuncNested
import Derived.RangeFuncBound
import Derived.RangeFuncCalls
import Derived.RangeFuncLeaves
import Derived.RangeFuncBox
import Derived.Shelf.Abstract
import Derived.OwnWalkIn
import Derived.TacticsInMore
import Derived.LoopNIn
import Derived.LoopIn
import Derived.Test.YthgkfdhkmkbioaaRows
namespace Go.Proofs.Ythgkfdhkmkbioaa
/-! ### Kit -/
section
open Go.RowKit

/-! ### What a call leaves -/

/-- The call returns v, and nothing that was there has changed. -/
def Ret (v : Value) (w : World) (e : Ending) (w' : World) : Prop := e = .returned v ∧ Below w.heap.size w w'

theorem Ret.mk {v : Value} {w w' : World} (h : Below w.heap.size w w') : Ret v w (.returned v) w' := ⟨rfl, h⟩
theorem Ret.same {v : Value} {w : World} : Ret v w (.returned v) w := ⟨rfl, Below.refl _ _⟩

theorem below_step {w w1 w2 : World} (h : Below w.heap.size w w1) (h2 : Below w1.heap.size w1 w2) : Below w.heap.size w w2 :=
  h.trans (h2.mono h.size)

theorem below_alloc {w w1 : World} (h : Below w.heap.size w w1) (o : Obj) : Below w.heap.size w (w1.alloc o) := h.alloc h.size o

theorem below_drewN {B : Nat} {a w : World} (h : Below B a w) (n : Nat) : Below B a (w.drewN n) := ⟨h.os, h.tape, h.output, h.size, h.block⟩

/-! ### The row's last step -/
section
open Go.WideShapes Go.ChangeShapes
variable {H : Type} {enc : TypeId × Value → H} {P : Program}
/-- A call that leaves all that was there as it was meets the row's post, if its results and arguments read as the row says. -/
theorem post_of_below {f : Func} {s : ChangeSpec} {apart fresh handsOn again : Bool} {W W' : World} {args : Array Value} {v : Value} {ds gs : List (DataW H)} {before pa pv : List MemPlace}
    (hW : DataW.Whole enc P f.params.toList s.vars apart W args.toList ds gs before)
    (hres : ∀ (b : Nat) (sp : Nat → Bool) (hd : Bool), DataW.TrodAll enc P W' b sp hd f.resultTypes.toList (v.resultList f.resultTypes.size) (s.fn H (ds ++ gs)).results [])
    (hargs : ∀ sp : Nat → Bool, (∀ p ∈ before, sp p.block = true) → DataW.TrodAll enc P W' 0 sp true f.params.toList args.toList (s.fn H (ds ++ gs)).args pa)
    (hvars : ∀ sp : Nat → Bool, (∀ p ∈ before, sp p.block = true) → DataW.TrodVars enc P W' sp s.vars (s.fn H (ds ++ gs)).vars pv)
    (hps : before = pa ++ pv) (hb : Below W.heap.size W W')
    (hok : ∀ (j : Nat) (t : TypeId) (r : Value), f.resultTypes[j]? = some t → (v.resultList f.resultTypes.size)[j]? = some r → Value.okWide P W' .any 0 t r) :
    s.post enc P f apart fresh handsOn again W args v W' := by
  have low : ∀ p ∈ before, p.block < W.heap.size := fun p hp => hW.lt p hp
  have old : ∀ p ∈ before, (fun b => decide (b < W.heap.size)) p.block = true := fun p hp => by simpa using low p hp
  refine ⟨ds, gs, before, [], pa, pv, hW, hres _ _ _, hargs _ old, hvars _ old, World.keptBut_mono (fun p hp => ⟨hp, ?_⟩) (hb.frame (· ∈ before)), fun _ => ?_⟩
  · rw [hps, List.mem_append] at hp
    exact .inr hp
  · obtain ⟨_, _, _, _, _, hz, hn⟩ := hW
    refine ⟨hok, _, _, ([] ++ pa) ++ pv, ⟨[] ++ pa, pv, trodAll_append (hargs _ (fun _ _ => rfl)) (hres _ _ _), hvars _ (fun _ _ => rfl), rfl, ?_, ?_⟩, ?_⟩
    · intro b off hp
      have hin : MemPlace.cell b off ∈ before := by rw [hps]; simpa using hp
      rw [hb.frozen (low _ hin)]
      exact hz b off hin
    · intro ha
      have := hn ha
      rw [hps] at this
      simpa using this
    · intro p hp _
      rw [hps]
      simpa using hp
end

/-! ### A block that is known whole -/

def Blk (w : World) (g : Nat) (t : TypeId) (cs : Array Value) : Prop := w.heap[g]? = some (.cells cs t (0, 0))

section
variable {w w' : World} {g : Nat} {t : TypeId} {cs : Array Value}

theorem Blk.lt (h : Blk w g t cs) : g < w.heap.size := by
  unfold Blk at h
  exact (Array.getElem?_eq_some_iff.1 h).1

theorem Blk.cell (h : Blk w g t cs) (i : Nat) : w.cell? ⟨g, i, none⟩ = cs[i]? := by
  unfold Blk at h
  simp [World.cell?, h]

theorem Blk.frozen (h : Blk w g t cs) (i : Nat) : w.frozen? ⟨g, i, none⟩ = false := by
  unfold Blk at h
  simp [World.frozen?, h]

theorem Blk.new (w : World) (t : TypeId) (cs : Array Value) : Blk (w.alloc (.cells cs t)) w.heap.size t cs := heap_alloc_new w _

theorem Blk.alloc (h : Blk w g t cs) (o : Obj) : Blk (w.alloc o) g t cs := (Below.heap_alloc w o g h.lt).trans h

theorem Blk.drewN (h : Blk w g t cs) (n : Nat) : Blk (w.drewN n) g t cs := h
theorem Blk.drew (h : Blk w g t cs) : Blk w.drew g t cs := h

theorem Blk.set (h : Blk w g t cs) (i : Nat) (u : Value) : Blk (w.setCell ⟨g, i, none⟩ u) g t (cs.setIfInBounds i u) := by
  unfold Blk at h ⊢
  simp [World.setCell, Array.getElem?_modify, h]

theorem Blk.other (h : Blk w g t cs) {p : Addr} (hp : g ≠ p.block) (u : Value) : Blk (w.setCell p u) g t cs := (Below.heap_setCell w p u g hp).trans h

theorem Blk.below {B : Nat} (h : Blk w g t cs) (hb : Below B w w') (hg : g < B) : Blk w' g t cs := (hb.block g hg).trans h

theorem Blk.later (h : Blk w g t cs) (hb : Below w.heap.size w w') : Blk w' g t cs := h.below hb h.lt
end

/-! ### A region that draws its order: operations that yield the same in every world that meets a condition -/

/-- The operation comes to the value v, and the condition is kept. -/
def Gives (P : Program) (Inv : World → Prop) (v : Value) : Result Next → Prop
  | .ok (.value u) w' => u = v ∧ Inv w'
  | .ok .skip w' => v = undef ∧ Inv w'
  | .ok (.enter f args) w' => Calls P f args w' (fun e w'' => e = .returned v ∧ Inv w'')
  | _ => False

def YieldsInv (P : Program) (Inv : World → Prop) (o : Oper) (v : Value) (a : Act) : Prop :=
  ∀ w, Inv w → Gives P Inv v ((execOp a.eval o).run P w)

/-- The operations of the list, in the text's order, each run in whatever world meets the condition. -/
def wpInv (P : Program) (ops : Array Oper) (Inv : World → Prop) (R : Act → Prop) : List Oper → Act → Prop
  | [], a => R a
  | o :: rest, a =>
    if Region.wanted o (yielded ops a.tmps) then ∃ v, YieldsInv P Inv o v a ∧ wpInv P ops Inv R rest (a.put o.dst v)
    else wpInv P ops Inv R rest (a.put o.dst undef)

/-- At the frame A the operation leaves the frame as it is. -/
def Settled (P : Program) (ops : Array Oper) (Inv : World → Prop) (o : Oper) (A : Act) : Prop :=
  (Region.wanted o (yielded ops A.tmps) = true → ∃ v, YieldsInv P Inv o v A ∧ A.put o.dst v = A) ∧
  (Region.wanted o (yielded ops A.tmps) = false → A.put o.dst undef = A)

/-- What the table of the region must be: no select; an operation reads no slot that it or a later one of the first n writes, and waits for those of the first n whose slot it reads; two of the first n write different slots; each waits only for earlier ones. -/
def invOk (ops : Array Oper) (n : Nat) : Bool :=
  Region.noSelect ops && decide (n ≤ ops.size) &&
  (List.range ops.size).all fun i => match ops[i]? with
    | none => true
    | some oi =>
      (oi.after.all fun e => !Region.binds .any e || decide (e.on < i)) &&
      (decide (n ≤ i) || (List.range n).all fun j => match ops[j]? with
        | none => true
        | some oj => match oj.dst with
          | none => true
          | some d =>
            (decide (i = j) || oi.dst != some d) &&
            (!(oi.looksAt ops).contains d || (decide (j < i) && Region.waitsFor .any ops i j)))

section
variable {P : Program} {ops : Array Oper} {Inv : World → Prop}

theorem eval_of_agree {a A : Act} {o : Oper} (h : ∀ t ∈ o.looksAt ops, a.tmps[t]? = A.tmps[t]?) :
    ∀ x ∈ o.op.operands, a.eval x = A.eval x := by
  intro x hx
  cases x with
  | tmp t =>
    have : t ∈ o.looksAt ops := List.mem_append_left _ (List.mem_filterMap.2 ⟨.tmp t, by simpa using hx, rfl⟩)
    have := h t this
    simp [Act.eval, this]
  | _ => rfl

theorem exec_of_agree {a A : Act} {o : Oper} (hs : ∀ cs b, o.op ≠ .select cs b) (h : ∀ t ∈ o.looksAt ops, a.tmps[t]? = A.tmps[t]?) :
    execOp a.eval o = execOp A.eval o := execOp_congr o hs (eval_of_agree h)

theorem wanted_of_agree {a A : Act} {o : Oper} (h : ∀ t ∈ o.looksAt ops, a.tmps[t]? = A.tmps[t]?) :
    Region.wanted o (yielded ops a.tmps) = Region.wanted o (yielded ops A.tmps) := by
  unfold Region.wanted
  cases hg : o.guard with
  | none => rfl
  | some gw =>
    obtain ⟨g, want⟩ := gw
    have : yielded ops a.tmps g = yielded ops A.tmps g := by
      unfold yielded
      cases ht : (ops[g]?).bind (·.dst) with
      | none => rfl
      | some t =>
        have hm : t ∈ o.looksAt ops := List.mem_append_right _ (by simp [hg, ht])
        have := h t hm
        simp [this]
    simp only [this]

theorem put_get_ne {a : Act} {dst : Option Tmp} {v : Value} {t : Tmp} (h : dst ≠ some t) : (a.put dst v).tmps[t]? = a.tmps[t]? := by
  cases dst with
  | none => rfl
  | some d =>
    have : d ≠ t := fun e => h (e ▸ rfl)
    simp [Act.put, Array.getElem?_setIfInBounds_ne this]

theorem put_self {a A : Act} {dst : Option Tmp} {v : Value} (h : ∀ d, dst = some d → A.tmps[d]? = (a.put dst v).tmps[d]?) (hsz : A.tmps.size = a.tmps.size) : A.put dst v = A := by
  cases dst with
  | none => rfl
  | some d =>
    have h1 := h d rfl
    have e : A.tmps.setIfInBounds d v = A.tmps := by
      apply Array.ext_getElem?
      intro i
      by_cases hi : d = i
      · subst hi
        by_cases hlt : d < A.tmps.size
        · have hlt' : d < a.tmps.size := hsz ▸ hlt
          simp only [Act.put, Array.getElem?_setIfInBounds, if_pos hlt', if_true] at h1
          simp only [Array.getElem?_setIfInBounds, if_pos hlt, if_true]
          exact h1.symm
        · rw [Array.getElem?_setIfInBounds]
          simp [hlt]
      · rw [Array.getElem?_setIfInBounds_ne hi]
    show ({ A with tmps := A.tmps.setIfInBounds d v } : Act) = A
    rw [e]

theorem put_size {a : Act} {dst : Option Tmp} {v : Value} : (a.put dst v).tmps.size = a.tmps.size := by
  cases dst <;> simp [Act.put]
theorem put_defers' {a : Act} {dst : Option Tmp} {v : Value} : (a.put dst v).defers = a.defers := by
  cases dst <;> rfl

/-- The walk in the text's order gives the frame at the end, at which every operation is settled. -/
theorem wpInv_settles {R : Act → Prop} (hsel : ∀ o ∈ ops.toList, ∀ cs b, o.op ≠ .select cs b) :
    ∀ (l : List Oper), (∀ o ∈ l, o ∈ ops.toList) →
      (l.Pairwise fun o o' => ∀ d, o'.dst = some d → o.dst ≠ some d ∧ d ∉ o.looksAt ops) → (∀ o ∈ l, ∀ d, o.dst = some d → d ∉ o.looksAt ops) →
      ∀ a, wpInv P ops Inv R l a → ∃ A, R A ∧ A.tmps.size = a.tmps.size ∧ A.defers = a.defers ∧
        (∀ t, (∀ o ∈ l, o.dst ≠ some t) → A.tmps[t]? = a.tmps[t]?) ∧ ∀ o ∈ l, Settled P ops Inv o A := by
  intro l
  induction l with
  | nil => intro _ _ _ a h; exact ⟨a, h, rfl, rfl, fun _ _ => rfl, fun o ho => by cases ho⟩
  | cons o rest ih =>
    intro hmem hpw hown a h
    rw [List.pairwise_cons] at hpw
    have hlook : ∀ {A : Act} {v : Value}, (∀ t, (∀ o' ∈ rest, o'.dst ≠ some t) → A.tmps[t]? = (a.put o.dst v).tmps[t]?) → ∀ t ∈ o.looksAt ops, a.tmps[t]? = A.tmps[t]? := by
      intro A v hA t ht
      have h1 : ∀ o' ∈ rest, o'.dst ≠ some t := fun o' ho' hd => (hpw.1 o' ho' t hd).2 ht
      rw [hA t h1, put_get_ne]
      intro hd
      exact hown o (List.mem_cons_self ..) t hd ht
    have hself : ∀ {A : Act} {v : Value}, A.tmps.size = (a.put o.dst v).tmps.size → (∀ t, (∀ o' ∈ rest, o'.dst ≠ some t) → A.tmps[t]? = (a.put o.dst v).tmps[t]?) → A.put o.dst v = A := by
      intro A v hsz hA
      refine put_self (a := a) (fun d hd => ?_) (by rw [hsz, put_size])
      exact hA d (fun o' ho' hd' => (hpw.1 o' ho' d hd').1 hd)
    unfold wpInv at h
    split at h
    · rename_i hw
      obtain ⟨v, hy, hr⟩ := h
      obtain ⟨A, hRA, hsz, hdf, hA, hset⟩ := ih (fun o' ho' => hmem o' (List.mem_cons_of_mem _ ho')) hpw.2 (fun o' ho' => hown o' (List.mem_cons_of_mem _ ho')) _ hr
      have hl := hlook hA
      have he := exec_of_agree (ops := ops) (hsel o (hmem o (List.mem_cons_self ..))) hl
      have hwn := wanted_of_agree (ops := ops) hl
      refine ⟨A, hRA, by rw [hsz, put_size], by rw [hdf, put_defers'], fun t ht => ?_, fun o' ho' => ?_⟩
      · rw [hA t (fun o' ho' => ht o' (List.mem_cons_of_mem _ ho')), put_get_ne (ht o (List.mem_cons_self ..))]
      · rcases List.mem_cons.1 ho' with rfl | ho'
        · refine ⟨fun _ => ⟨v, ?_, hself hsz hA⟩, fun hf => ?_⟩
          · intro w hInv
            rw [← he]
            exact hy w hInv
          · rw [← hwn, hw] at hf; cases hf
        · exact hset o' ho'
    · rename_i hw
      obtain ⟨A, hRA, hsz, hdf, hA, hset⟩ := ih (fun o' ho' => hmem o' (List.mem_cons_of_mem _ ho')) hpw.2 (fun o' ho' => hown o' (List.mem_cons_of_mem _ ho')) _ h
      have hl := hlook hA
      have hwn := wanted_of_agree (ops := ops) hl
      refine ⟨A, hRA, by rw [hsz, put_size], by rw [hdf, put_defers'], fun t ht => ?_, fun o' ho' => ?_⟩
      · rw [hA t (fun o' ho' => ht o' (List.mem_cons_of_mem _ ho')), put_get_ne (ht o (List.mem_cons_self ..))]
      · rcases List.mem_cons.1 ho' with rfl | ho'
        · refine ⟨fun hf => ?_, fun _ => hself hsz hA⟩
          rw [← hwn] at hf; exact absurd hf hw
        · exact hset o' ho'

/-! ### The order that is drawn -/

theorem countP_drop {l : List Nat} (hn : l.Nodup) {i : Nat} (hi : i ∈ l) {p q : Nat → Bool} (hp : p i = true) (hq : q i = false) (h : ∀ x, x ≠ i → q x = p x) : l.countP p = l.countP q + 1 := by
  induction l with
  | nil => cases hi
  | cons x l ih =>
    rw [List.nodup_cons] at hn
    by_cases hx : x = i
    · subst hx
      have : l.countP p = l.countP q := by
        apply List.countP_congr
        intro y hy
        have : y ≠ x := fun e => hn.1 (e ▸ hy)
        rw [h y this]
      simp [hp, hq, this]
    · have hi' : i ∈ l := (List.mem_cons.1 hi).resolve_left (fun e => hx e.symm)
      have := ih hn.2 hi'
      simp only [List.countP_cons, this, h x hx]
      omega

def unl (n : Nat) (listed : Array Bool) : Nat := (List.range n).countP fun i => !listed.getD i true

theorem unl_set {n i : Nat} {listed : Array Bool} (hi : i < n) (hu : listed.getD i true = false) : unl n listed = unl n (listed.setIfInBounds i true) + 1 := by
  refine countP_drop List.nodup_range (List.mem_range.2 hi) (by simp only [hu]; rfl) ?_ ?_
  · have hs : i < listed.size := by
      rcases Nat.lt_or_ge i listed.size with h | h
      · exact h
      · simp [Array.getElem?_eq_none h] at hu
    simp [hs]
  · intro x hx
    rw [getD_set_ne true (Ne.symm hx)]

def finL (m n : Nat) : Array Bool := ((List.range m).map fun i => decide (i < n)).toArray

def orderOk (ops : Array Oper) (n : Nat) : Bool :=
  invOk ops n && (decide (n = ops.size) || (Region.sinkB .any ops n && Region.chainB .any ops n)) && Region.seqB .any ops (ops.size - n) n (finL ops.size n)

theorem invOk_spec {n : Nat} (h : invOk ops n = true) : (∀ o ∈ ops.toList, ∀ cs b, o.op ≠ .select cs b) ∧ n ≤ ops.size ∧
    (∀ (i : Nat) (oi : Oper), ops[i]? = some oi → ∀ e ∈ oi.after, Region.binds .any e = true → e.on < i) ∧
    (∀ (i : Nat) (oi : Oper) (j : Nat) (oj : Oper) (d : Tmp), ops[i]? = some oi → ops[j]? = some oj → i < n → j < n → oj.dst = some d → (i ≠ j → oi.dst ≠ some d) ∧ (d ∈ oi.looksAt ops → j < i ∧ Region.waitsFor .any ops i j = true)) := by
  unfold invOk at h
  simp only [Bool.and_eq_true, decide_eq_true_eq] at h
  obtain ⟨⟨h1, h2⟩, h3⟩ := h
  rw [List.all_eq_true] at h3
  refine ⟨fun o ho cs b => ?_, h2, fun i oi hi e he hbd => ?_, fun i oi j oj d hi hj hin hjn hd => ?_⟩
  · obtain ⟨k, hk⟩ := List.getElem?_of_mem ho
    exact Region.noSelect_spec h1 k o cs b (by simpa using hk)
  · have := h3 i (List.mem_range.2 (Array.getElem?_eq_some_iff.1 hi).1)
    simp only [hi, Bool.and_eq_true] at this
    have := (Array.all_eq_true_iff_forall_mem.1 this.1) e he
    simpa [hbd] using this
  · have := h3 i (List.mem_range.2 (Array.getElem?_eq_some_iff.1 hi).1)
    simp only [hi, Bool.and_eq_true, Bool.or_eq_true, decide_eq_true_eq] at this
    have h4 := this.2.resolve_left (by omega)
    rw [List.all_eq_true] at h4
    have h5 := h4 j (List.mem_range.2 hjn)
    simp only [hj, hd, Bool.and_eq_true, Bool.or_eq_true, decide_eq_true_eq, bne_iff_ne, Bool.not_eq_true', List.contains_eq_mem, decide_eq_false_iff_not] at h5
    refine ⟨fun hne => h5.1.resolve_left hne, fun hl => ?_⟩
    exact h5.2.resolve_left (fun hc => hc hl)

structure Upto (ops : Array Oper) (n : Nat) (A : Act) (listed : Array Bool) (a : Act) : Prop where
  head : HeadInv .any ops n listed
  dfs : a.defers = A.defers
  sz : a.tmps.size = A.tmps.size
  agree : ∀ t, (∀ j oj, j < n → ops[j]? = some oj → listed.getD j true = false → oj.dst ≠ some t) → a.tmps[t]? = A.tmps[t]?

theorem wpAny_inv {n : Nat} {A : Act} {Q : Exit → Act → World → Prop} (hB : orderOk ops n = true) (hset : ∀ i o, i < n → ops[i]? = some o → Settled P ops Inv o A)
    (hR : ∀ w, Inv w → wpList P ops Q (ops.toList.drop n) A w) :
    ∀ (m : Nat) (listed : Array Bool) (a : Act) (w : World), unl n listed = m → Upto ops n A listed a → Inv w → wpAny P .any ops Q (m + (ops.size - n)) listed a w := by
  simp only [orderOk, Bool.and_eq_true, Bool.or_eq_true, decide_eq_true_eq] at hB
  obtain ⟨⟨hI, hT⟩, hseq⟩ := hB
  obtain ⟨hsel, hnle, hback, hdis⟩ := invOk_spec hI
  intro m
  induction m with
  | zero =>
    intro listed a w hm hU hInv
    have hall : ∀ i, i < n → listed.getD i true = true := by
      intro i hi
      unfold unl at hm
      rw [List.countP_eq_zero] at hm
      have := hm i (List.mem_range.2 hi)
      simpa using this
    have ha : a = A := by
      have h1 : a.tmps = A.tmps := by
        apply Array.ext_getElem?
        intro t
        refine hU.agree t (fun j oj hj _ hun => ?_)
        rw [hall j hj] at hun; cases hun
      have h2 := hU.dfs
      cases a; cases A; simp_all
    have hl : listed = finL ops.size n := by
      apply Array.ext_getElem?
      intro i
      rcases Nat.lt_or_ge i ops.size with hi | hi
      · have hi' : i < listed.size := by rw [hU.head.size]; exact hi
        by_cases hin : i < n
        · have := hall i hin
          simp [hi'] at this
          simp [finL, hi, hi', hin, this]
        · have := hU.head.tail i (by omega) hi
          simp [hi'] at this
          simp [finL, hi, hi', hin, this]
      · have hi' : listed.size ≤ i := by rw [hU.head.size]; exact hi
        simp [finL, hi, hi']
    subst ha
    subst hl
    have := wpAny_of_seq (P := P) (md := .any) (Q' := Q) (ops.toList.drop n) n (finL ops.size n) a w (fun j => by simp [List.getElem?_drop]) (by simpa using hseq) (hR w hInv)
    simpa using this
  | succ m ih =>
    intro listed a w hm hU hInv
    have hex : ∃ i, i < n ∧ listed.getD i true = false := by
      have : 0 < unl n listed := by omega
      unfold unl at this
      rw [List.countP_pos_iff] at this
      obtain ⟨i, hi, h⟩ := this
      exact ⟨i, List.mem_range.1 hi, by simpa using h⟩
    have hsmall : ∀ k i, i ≤ k → i < n → listed.getD i true = false → ∃ j, j ∈ Region.ready .any ops listed := by
      intro k
      induction k with
      | zero =>
        intro i hi hin hun
        have hlt : i < ops.size := by omega
        refine ⟨i, mem_ready.2 ⟨hun, ops[i], by simp [hlt], fun e he hbd => ?_⟩⟩
        have := hback i ops[i] (by simp [hlt]) e he hbd
        omega
      | succ k ihk =>
        intro i hi hin hun
        have hlt : i < ops.size := by omega
        by_cases hex2 : ∃ e ∈ (ops[i]).after, Region.binds .any e = true ∧ listed.getD e.on false = false
        · obtain ⟨e, he, hbd, hf⟩ := hex2
          have hlt2 := hback i ops[i] (by simp [hlt]) e he hbd
          exact ihk e.on (by omega) (by omega) (getD_in (by rw [hU.head.size]; omega) hf)
        · refine ⟨i, mem_ready.2 ⟨hun, ops[i], by simp [hlt], fun e he hbd => ?_⟩⟩
          cases hf : listed.getD e.on false with
          | true => rfl
          | false => exact absurd ⟨e, he, hbd, hf⟩ hex2
    obtain ⟨i0, hi0, hun0⟩ := hex
    obtain ⟨j0, hj0⟩ := hsmall i0 i0 (Nat.le_refl _) hi0 hun0
    rw [show m + 1 + (ops.size - n) = (m + (ops.size - n)) + 1 by omega]
    refine ⟨fun h => (by rw [h] at hj0; cases hj0), fun i hi => ?_⟩
    obtain ⟨hiun, oi, hoi, hall⟩ := mem_ready.1 hi
    have hin : i < n := by
      rcases Nat.lt_or_ge i n with h | h
      · exact h
      · have hilt := (Array.getElem?_eq_some_iff.1 hoi).1
        rcases hT with hT | ⟨hs, hc⟩
        · omega
        · exact absurd hi (tail_waits hs hc (by omega) hU.head _ i0 rfl hi0 hun0 i h)
    have hag : ∀ t ∈ oi.looksAt ops, a.tmps[t]? = A.tmps[t]? := by
      intro t ht
      refine hU.agree t (fun j oj hj hoj hun hd => ?_)
      obtain ⟨_, h2⟩ := hdis i oi j oj t hoi hoj hin hj hd
      obtain ⟨hji, hwf⟩ := h2 ht
      obtain ⟨o', ho', e, he, hb, hon⟩ := Region.waitsFor_spec hwf
      have : o' = oi := Option.some.inj (ho'.symm.trans hoi)
      subst this
      have h3 := hall e he hb
      rw [hon, getD_both hun] at h3
      cases h3
    have he := exec_of_agree (ops := ops) (hsel oi (by
      have := Array.mem_of_getElem? hoi
      simpa using this)) hag
    have hwn := wanted_of_agree (ops := ops) hag
    have hU' : ∀ v, A.put oi.dst v = A → Upto ops n A (listed.setIfInBounds i true) (a.put oi.dst v) := by
      intro v hv
      refine ⟨hU.head.set hi hin, by rw [put_defers']; exact hU.dfs, by rw [put_size]; exact hU.sz, fun t ht => ?_⟩
      by_cases hd : oi.dst = some t
      · rw [← hv, hd]
        by_cases hlt : t < a.tmps.size
        · have hlt' : t < A.tmps.size := by rw [← hU.sz]; exact hlt
          simp [Act.put, hlt, hlt']
        · have hlt' : ¬ t < A.tmps.size := by rw [← hU.sz]; exact hlt
          simp [Act.put, hlt, hlt']
      · rw [put_get_ne hd]
        refine hU.agree t (fun j oj hj hoj hun hdj => ?_)
        by_cases hji : j = i
        · subst hji
          have : oj = oi := Option.some.inj (hoj.symm.trans hoi)
          subst this
          exact hd hdj
        · exact ht j oj hj hoj (by rw [getD_set_ne true (Ne.symm hji)]; exact hun) hdj
    have hun' : unl n (listed.setIfInBounds i true) = m := by
      have := unl_set hin hiun
      omega
    have hS := hset i oi hin hoi
    unfold wpOp
    simp only [hoi]
    by_cases hw : Region.wanted oi (yielded ops A.tmps) = true
    · obtain ⟨v, hy, hv⟩ := hS.1 hw
      rw [hwn, if_pos hw]
      refine .inl ?_
      unfold Oper.wp
      rw [he]
      have hg := hy w hInv
      generalize (execOp A.eval oi).run P w = r at hg
      cases r with
      | halt x w' => exact hg.elim
      | ok nx w' =>
        cases nx <;> simp only [Gives] at hg <;> simp only [Oper.upon]
        case value u =>
          obtain ⟨rfl, hI'⟩ := hg
          exact ih _ _ _ hun' (hU' _ hv) hI'
        case skip =>
          obtain ⟨rfl, hI'⟩ := hg
          exact ih _ _ _ hun' (hU' _ hv) hI'
        case enter f args =>
          refine Calls.mono hg (fun e w'' ⟨hee, hI'⟩ => ?_)
          subst hee
          exact ih _ _ _ hun' (hU' _ hv) hI'
    · have hw' : Region.wanted oi (yielded ops A.tmps) = false := by simpa using hw
      rw [hwn, if_neg hw]
      exact ih _ _ _ hun' (hU' _ (hS.2 hw')) hInv

/-- THE RULE: the first n operations of a region that draws its order, each of which yields the same value in every world that meets Inv, and keeps Inv; then the others, in the text's order. -/
theorem wp_region_inv {id : Nat} {Q : Exit → Act → World → Prop} {a : Act} {w : World} {l : List Oper} (n : Nat) (Inv : World → Prop) (hm : P.follows .mixedOrders = true) (hB : orderOk l.toArray n = true)
    (h0 : Inv w.drew) (h' : ∀ R : Act → Prop, (∀ A, (∀ w', Inv w' → wpList P l.toArray Q (l.drop n) A w') → R A) → wpInv P l.toArray Inv R (l.take n) a) : (Code.region id l.toArray true).wp P Q a w := by
  have h := h' (fun A => ∀ w', Inv w' → wpList P l.toArray Q (l.drop n) A w') (fun _ h => h)
  have hB' := hB
  simp only [orderOk, Bool.and_eq_true] at hB'
  obtain ⟨hsel, hnle, hback, hdis⟩ := invOk_spec hB'.1.1
  have hget : ∀ o ∈ l.take n, ∃ i, i < n ∧ l[i]? = some o := by
    intro o ho
    obtain ⟨i, hi⟩ := List.getElem?_of_mem ho
    have hlt : i < n := by
      rw [List.getElem?_take] at hi
      split at hi
      · assumption
      · cases hi
    exact ⟨i, hlt, by rw [List.getElem?_take_of_lt hlt] at hi; exact hi⟩
  obtain ⟨A, hRA, hsz, hdf, hA, hset⟩ := wpInv_settles (P := P) (Inv := Inv) (ops := l.toArray) (by simpa using hsel) (l.take n) (fun o ho => by simpa using List.mem_of_mem_take ho) (by
      rw [List.pairwise_iff_getElem]
      intro i j hi hj hij d hd
      have hi' : i < n ∧ i < l.length := by rw [List.length_take] at hi; omega
      have hj' : j < n ∧ j < l.length := by rw [List.length_take] at hj; omega
      have e1 : (l.take n)[i] = l[i]'hi'.2 := by simp
      have e2 : (l.take n)[j] = l[j]'hj'.2 := by simp
      rw [e2] at hd
      rw [e1]
      have := hdis i (l[i]'hi'.2) j (l[j]'hj'.2) d (by simp [hi'.2]) (by simp [hj'.2]) hi'.1 hj'.1 hd
      exact ⟨this.1 (by omega), fun hl => by have := (this.2 hl).1; omega⟩) (by
      intro o ho d hd hl
      obtain ⟨i, hi, hio⟩ := hget o ho
      have := (hdis i o i o d (by simpa using hio) (by simpa using hio) hi hi hd).2 hl
      omega) a h
  refine wp_region_any hm ?_
  have hun : unl n (Array.replicate l.toArray.size false) = n := by
    unfold unl
    rw [List.countP_eq_length.2, List.length_range]
    intro i hi
    have : i < l.toArray.size := by have := List.mem_range.1 hi; omega
    have h2 : i < l.length := by simpa using this
    simp [h2]
  have := wpAny_inv (P := P) (Inv := Inv) (Q := Q) (A := A) hB (fun i o hi ho => hset o (by
      refine List.mem_of_getElem? (i := i) ?_
      rw [List.getElem?_take_of_lt hi]; simpa using ho)) (by simpa using hRA) n (Array.replicate l.toArray.size false) a w.drew hun
    ⟨⟨by simp, fun j oj _ hl => (by rw [getD_replicate_false] at hl; cases hl), fun t _ ht => getD_in (by simpa using ht) (getD_replicate_false _ _)⟩, hdf.symm, hsz.symm, fun t ht => (hA t (fun o ho hd => by
      obtain ⟨i, hi, hio⟩ := hget o ho
      have hlt : i < l.length := (List.getElem?_eq_some_iff.1 hio).1
      exact ht i o hi (by simpa using hio) (by simp [hlt]) hd)).symm⟩ h0
  have hnl : n ≤ l.toArray.size := hnle
  rw [show n + (l.toArray.size - n) = l.toArray.size by omega] at this
  exact this

section
variable {R : Act → Prop} {a : Act} {o : Oper} {rest : List Oper}
theorem wpInv_nil (h : R a) : wpInv P ops Inv R [] a := h
theorem wpInv_val {v : Value} (hw : Region.wanted o (yielded ops a.tmps) = true) (h : ∀ w, Inv w → (execOp a.eval o).run P w = .ok (.value v) w)
    (hr : wpInv P ops Inv R rest (a.put o.dst v)) : wpInv P ops Inv R (o :: rest) a := by
  unfold wpInv
  rw [if_pos hw]
  exact ⟨v, fun w hI => by rw [h w hI]; exact ⟨rfl, hI⟩, hr⟩
theorem wpInv_move {dst : Option Tmp} {x : Operand} {ty : TypeId} {pos : String} {after : Array Edge} {gd : Option (Nat × Bool)}
    (hw : Region.wanted ⟨dst, .move x, ty, pos, after, gd⟩ (yielded ops a.tmps) = true)
    (hr : wpInv P ops Inv R rest (a.put dst (a.eval x))) : wpInv P ops Inv R (⟨dst, .move x, ty, pos, after, gd⟩ :: rest) a :=
  wpInv_val hw (fun _ _ => rfl) hr
theorem wpInv_call {v : Value} (f : FuncId) (args : Array Value) (hw : Region.wanted o (yielded ops a.tmps) = true) (h : ∀ w, (execOp a.eval o).run P w = .ok (.enter f args) w)
    (hc : ∀ w, Inv w → Calls P f args w (fun e w' => e = .returned v ∧ Inv w'))
    (hr : wpInv P ops Inv R rest (a.put o.dst v)) : wpInv P ops Inv R (o :: rest) a := by
  unfold wpInv
  rw [if_pos hw]
  exact ⟨v, fun w hI => by rw [h w]; exact hc w hI, hr⟩
theorem wpInv_skip (hw : Region.wanted o (yielded ops a.tmps) = false) (hr : wpInv P ops Inv R rest (a.put o.dst undef)) : wpInv P ops Inv R (o :: rest) a := by
  unfold wpInv
  rw [hw]
  exact hr
end
end
end
/-! ### Sl -/
section
open Go.RowKit

/-- The cells of a slice of integers, from its address on (nil only if it is empty). -/
def Ints (w : World) (o : Option Addr) (l : List Int) : Prop :=
  ∀ i, i < l.length → ∃ b off, o = some ⟨b, off, none⟩ ∧ w.cell? ⟨b, off + i, none⟩ = some (.int .i64 (l.getD i 0))

/-- The cells of a slice of structs of two integers. -/
def Twos (w : World) (o : Option Addr) (l : List (Int × Int)) : Prop :=
  ∀ i, i < l.length → ∃ b off, o = some ⟨b, off, none⟩ ∧ w.cell? ⟨b, off + i * 2, none⟩ = some (.int .i64 (l.getD i (0, 0)).1) ∧ w.cell? ⟨b, off + i * 2 + 1, none⟩ = some (.int .i64 (l.getD i (0, 0)).2)

section
variable {w w' : World} {o : Option Addr}

theorem cell_lt {p : Addr} {v : Value} (h : w.cell? p = some v) : p.block < w.heap.size := by
  unfold World.cell? at h
  rcases Nat.lt_or_ge p.block w.heap.size with hl | hl
  · exact hl
  · simp [Array.getElem?_eq_none hl] at h

theorem cell_kept (hb : Below w.heap.size w w') {p : Addr} {v : Value} (h : w.cell? p = some v) : w'.cell? p = some v :=
  (hb.cell (cell_lt h)).trans h

theorem Ints.later {l : List Int} (h : Ints w o l) (hb : Below w.heap.size w w') : Ints w' o l := fun i hi => by
  obtain ⟨b, off, ho, hc⟩ := h i hi
  exact ⟨b, off, ho, cell_kept hb hc⟩

theorem Twos.later {l : List (Int × Int)} (h : Twos w o l) (hb : Below w.heap.size w w') : Twos w' o l := fun i hi => by
  obtain ⟨b, off, ho, hc, hd⟩ := h i hi
  exact ⟨b, off, ho, cell_kept hb hc, cell_kept hb hd⟩

theorem two_new {t : TypeId} {a b : Value} (hb : Below (w.alloc (.cells #[a, b] t)).heap.size (w.alloc (.cells #[a, b] t)) w') :
    w'.cell? ⟨w.heap.size, 0, none⟩ = some a ∧ w'.cell? ⟨w.heap.size, 1, none⟩ = some b := by
  have h := (Blk.new w t #[a, b]).later hb
  exact ⟨h.cell 0, h.cell 1⟩

theorem three_new {t : TypeId} {a b c : Value} (hb : Below (w.alloc (.cells #[a, b, c] t)).heap.size (w.alloc (.cells #[a, b, c] t)) w') :
    w'.cell? ⟨w.heap.size, 0, none⟩ = some a ∧ w'.cell? ⟨w.heap.size, 1, none⟩ = some b ∧ w'.cell? ⟨w.heap.size, 2, none⟩ = some c := by
  have h := (Blk.new w t #[a, b, c]).later hb
  exact ⟨h.cell 0, h.cell 1, h.cell 2⟩

/-- A struct of three cells, boxed by a call at its beginning; nothing else that was there has changed. -/
structure Box3 (w wr : World) (a b c : Value) : Prop where
  c0 : wr.cell? ⟨w.heap.size, 0, none⟩ = some a
  c1 : wr.cell? ⟨w.heap.size, 1, none⟩ = some b
  c2 : wr.cell? ⟨w.heap.size, 2, none⟩ = some c
  below : Below w.heap.size w wr

theorem Box3.new (w : World) (t : TypeId) (a b c : Value) : Box3 w (w.alloc (.cells #[a, b, c] t)) a b c :=
  have h := Blk.new w t #[a, b, c]
  ⟨h.cell 0, h.cell 1, h.cell 2, below_alloc (Below.refl _ _) _⟩

theorem Box3.later {w wr wr' : World} {a b c : Value} (h : Box3 w wr a b c) (hb : Below wr.heap.size wr wr') : Box3 w wr' a b c :=
  ⟨cell_kept hb h.c0, cell_kept hb h.c1, cell_kept hb h.c2, below_step h.below hb⟩

theorem Box3.alloc {w wr : World} {a b c : Value} (h : Box3 w wr a b c) (o : Obj) : Box3 w (wr.alloc o) a b c := h.later (below_alloc (Below.refl _ _) o)

theorem Ints.nil : Ints w o [] := fun _ hi => absurd hi (Nat.not_lt_zero _)
theorem Twos.nil : Twos w o [] := fun _ hi => absurd hi (Nat.not_lt_zero _)
end
end
/-! ### Own -/
section
open Go.RowKit

theorem ownsRow_cast {w : World} {base : Nat} {e : TypeId} {size : Nat} {v : Value} {n n' : Nat} {xs xs' : List Value} (h : w.ownsRow base e size v n xs) (hn : n = n') (hx : xs = xs') : w.ownsRow base e size v n' xs' := by
  subst hn; subst hx; exact h

theorem ownsRow_later {w w' : World} {base : Nat} {e : TypeId} {size : Nat} {v : Value} {n : Nat} {xs : List Value} (h : w.ownsRow base e size v n xs) (hb : Below w.heap.size w w') : w'.ownsRow base e size v n xs :=
  h.kept (row := none) ⟨hb.os, hb.tape, hb.output, hb.size, fun j hj _ => hb.block j hj⟩ (by cases hv : v.ownBlock <;> simp)

/-- A box of the call's own at the first block that w2 does not have, and a row behind it that the call owns; what w2 has is as it was. -/
structure Grow (w2 wr : World) (e : TypeId) (size : Nat) (t : TypeId) (cs : Array Value) (v : Value) (n : Nat) (xs : List Value) : Prop where
  blk : Blk wr w2.heap.size t cs
  own : wr.ownsRow (w2.heap.size + 1) e size v n xs
  below : Below w2.heap.size w2 wr

section
variable {w2 wr w1 : World} {e : TypeId} {size : Nat} {t : TypeId} {cs : Array Value} {v v' : Value} {n n' : Nat} {xs xs' : List Value}

theorem Grow.new (w2 : World) (e : TypeId) (size : Nat) (t : TypeId) (cs : Array Value) : Grow w2 (w2.alloc (.cells cs t)) e size t cs (.slice none 0 0) 0 [] :=
  ⟨Blk.new .., World.ownsRow_nil .., below_alloc (Below.refl _ _) _⟩

theorem Grow.later (h : Grow w2 wr e size t cs v n xs) (hb : Below wr.heap.size wr w1) : Grow w2 w1 e size t cs v n xs :=
  ⟨h.blk.later hb, ownsRow_later h.own hb, below_step h.below hb⟩

theorem Grow.alloc (h : Grow w2 wr e size t cs v n xs) (o : Obj) : Grow w2 (wr.alloc o) e size t cs v n xs := h.later (below_alloc (Below.refl _ _) o)

theorem Grow.app (h : Grow w2 wr e size t cs v n xs) (ho : w1.ownsRow (w2.heap.size + 1) e size v' n' xs') (hg : wr.grownBy w1 v.ownBlock) : Grow w2 w1 e size t cs v' n' xs' := by
  have hl := h.own.lt
  refine ⟨?_, ho, h.below.grown hg h.below.size (fun k hk => by have := hl k hk; omega)⟩
  exact (hg.block _ h.blk.lt (fun e => by have := hl _ e.symm; omega)).trans h.blk

theorem Grow.store (h : Grow w2 wr e size t cs v n xs) (i : Nat) (u : Value) : Grow w2 (wr.setCell ⟨w2.heap.size, i, none⟩ u) e size t (cs.setIfInBounds i u) v n xs :=
  ⟨h.blk.set i u, ownsRow_setCell_below h.own (Nat.lt_succ_self _) u, h.below.setCell (Nat.le_refl _) u⟩

theorem Grow.base (h : Grow w2 wr e size t cs v n xs) : w2.heap.size + 1 ≤ wr.heap.size := h.blk.lt
end
end
/-! ### RowG -/
section
open Go.RowKit

/-- What a slice type's elements take. -/
structure ElemI (P : Program) (t e : TypeId) (size bytes : Nat) : Prop where
  under : P.underlying t = some (.slice e)
  info : ∃ i z, P.info? e = some i ∧ i.zero = some z ∧ i.size = size ∧ i.bytes = bytes ∧ z.cells.size = size
  pos : 0 < size

theorem ElemI.of {P : Program} {t e : TypeId} {size bytes : Nat} (hu : P.underlying t = some (.slice e)) (h : (P.info? e).map (fun i => (i.zero.map (fun z => z.cells.size), i.size, i.bytes)) = some (some size, size, bytes)) (hp : 0 < size) : ElemI P t e size bytes := by
  refine ⟨hu, ?_, hp⟩
  cases hi : P.info? e with
  | none => rw [hi] at h; cases h
  | some i =>
    rw [hi] at h
    simp only [Option.map_some, Option.some.injEq, Prod.mk.injEq] at h
    obtain ⟨h1, h2, h3⟩ := h
    cases hz : i.zero with
    | none => rw [hz] at h1; cases h1
    | some z =>
      rw [hz] at h1
      simp only [Option.map_some, Option.some.injEq] at h1
      exact ⟨i, z, rfl, hz, h2, h3, h1⟩

/-- A row of the call's own, in blocks that w2 does not have; what w2 has is as it was. -/
structure Row (w2 wr : World) (e : TypeId) (size : Nat) (v : Value) (n : Nat) (xs : List Value) : Prop where
  own : wr.ownsRow w2.heap.size e size v n xs
  below : Below w2.heap.size w2 wr

section
variable {P : Program} {w2 wr w1 : World} {t e : TypeId} {size bytes : Nat} {v v' : Value} {n n' : Nat} {xs xs' news : List Value}

theorem Row.nil (w2 : World) (e : TypeId) (size : Nat) : Row w2 w2 e size (.slice none 0 0) 0 [] := ⟨World.ownsRow_nil .., Below.refl _ _⟩
theorem Row.nil' (h : Below w2.heap.size w2 wr) (e : TypeId) (size : Nat) : Row w2 wr e size (.slice none 0 0) 0 [] := ⟨World.ownsRow_nil .., h⟩
theorem Row.later (h : Row w2 wr e size v n xs) (hb : Below wr.heap.size wr w1) : Row w2 w1 e size v n xs := ⟨ownsRow_later h.own hb, below_step h.below hb⟩
theorem Row.alloc (h : Row w2 wr e size v n xs) (o : Obj) : Row w2 (wr.alloc o) e size v n xs := h.later (below_alloc (Below.refl _ _) o)
theorem Row.cast (h : Row w2 wr e size v n xs) (hn : n = n') (hx : xs = xs') : Row w2 wr e size v n' xs' := by subst hn; subst hx; exact h
theorem Row.app (h : Row w2 wr e size v n xs) (ho : w1.ownsRow w2.heap.size e size v' n' xs') (hg : wr.grownBy w1 v.ownBlock) : Row w2 w1 e size v' n' xs' :=
  ⟨ho, h.below.grown hg h.below.size (fun k hk => (h.own.lt k hk).1)⟩
theorem Row.shape (h : Row w2 wr e size v n xs) : ∃ o cap, v = .slice o n cap ∧ n ≤ cap := by
  rcases h.own.2 with ⟨rfl, rfl⟩ | ⟨g, cap, _, rfl, _, _, hc, _⟩
  · exact ⟨none, 0, rfl, Nat.le_refl _⟩
  · exact ⟨some ⟨g, 0, none⟩, cap, rfl, hc⟩

/-- The cells, by number. -/
theorem Row.cell (h : Row w2 wr e size v n xs) {o : Option Addr} {cap : Nat} (hv : v = .slice o n cap) {j : Nat} {u : Value} (hj : xs[j]? = some u) : ∃ g, o = some ⟨g, 0, none⟩ ∧ w2.heap.size ≤ g ∧ wr.cell? ⟨g, j, none⟩ = some u := by
  rcases h.own.2 with ⟨_, hn⟩ | ⟨g, c, _, hv', hg, _⟩
  · have hl := h.own.1
    rw [hn, Nat.zero_mul] at hl
    rw [List.eq_nil_of_length_eq_zero hl] at hj
    cases hj
  · rw [hv] at hv'
    injection hv' with ho
    refine ⟨g, ho, hg, ?_⟩
    have := h.own.cells (g := g) (by rw [hv, ho]; rfl) j u hj
    unfold Addr.add at this
    split at this
    · rename_i h0
      subst h0
      exact this
    · simpa using this

theorem Row.ints {l : List Int} (h : Row w2 wr e 1 v n (l.map (Value.int .i64 ·))) {o : Option Addr} {cap : Nat} (hv : v = .slice o n cap) : Ints wr o l := by
  intro i hi
  obtain ⟨g, ho, _, hc⟩ := h.cell hv (j := i) (u := .int .i64 (l.getD i 0)) (by simp [hi])
  exact ⟨g, 0, ho, by rw [Nat.zero_add]; exact hc⟩

/-- append(s, x), one element, which lies in a block of its own. -/
theorem wp_append1 {ops : Array Oper} {rest : List Oper} {o : Oper} {a : Act} {Q : Exit → Act → World → Prop} (hI : ElemI P t e size bytes) (hG : Row w2 wr e size v n xs)
    (hn : n + 1 ≤ 1000000000) (hb : bytes ≤ 100000) (hlen : news.length = size) (h1 : ∀ u ∈ news, u.oneCell' = true)
    (hgd : o.guard = none) (s x : Operand) (ho : o.op = .call { callee := .builtin .append, args := #[s, x], argTypes := #[t, t] }) (hs : a.eval s = v) (hx : a.eval x = .slice (some ⟨wr.heap.size, 0, none⟩) 1 1)
    (h : ∀ v' w', Row w2 w' e size v' (n + 1) (xs ++ news) → wpList P ops Q rest (a.put o.dst v') w') : wpList P ops Q (o :: rest) a (wr.alloc (.cells news.toArray e)) := by
  obtain ⟨i, z, hi, hz, h2, h3, h4⟩ := hI.info
  refine wpList_append_own (wr.alloc (.cells news.toArray e)) hgd s x t ho w2.heap.size e i z size bytes hI.under hi hz h2 h3 h4 hI.pos v n xs hs (hG.own.alloc _) ⟨wr.heap.size, 0, none⟩ 1 1 news hx (by rw [hlen, Nat.one_mul]) ?_ h1 ?_ ?_ ?_ ?_
  · intro j u hj
    have := (Blk.new wr e news.toArray).cell j
    unfold Addr.add
    split
    · rename_i h0
      subst h0
      exact this.trans (by simpa using hj)
    · show World.cell? _ ⟨wr.heap.size, 0 + j, none⟩ = _
      rw [Nat.zero_add]
      exact this.trans (by simpa using hj)
  · simp only [maxLen]; omega
  · have := Nat.mul_le_mul hn hb
    omega
  · rw [World.size_alloc]
    have := hG.below.size
    omega
  · intro v' w' hown hgrow _
    exact h v' w' ((hG.alloc _).app hown hgrow)

end
end
/-! ### RowN -/
section
open Go.RowKit

section
variable {P : Program} {w2 wr w1 : World} {t e : TypeId} {size bytes : Nat} {v v' : Value} {n n' : Nat} {xs xs' news : List Value}

/-- append(s, x...): k elements, whose cells are known. -/
theorem wp_appendN {ops : Array Oper} {rest : List Oper} {o : Oper} {a : Act} {Q : Exit → Act → World → Prop} {k c : Nat} {ad : Addr} (hI : ElemI P t e size bytes) (hG : Row w2 wr e size v n xs)
    (hn : n + k ≤ 1000000000) (hb : bytes ≤ 100000) (hlen : news.length = k * size) (h1 : ∀ u ∈ news, u.oneCell' = true) (hcells : ∀ j u, news[j]? = some u → wr.cell? (ad.add j) = some u)
    (hgd : o.guard = none) (s x : Operand) (ho : o.op = .call { callee := .builtin .append, args := #[s, x], argTypes := #[t, t] }) (hs : a.eval s = v) (hx : a.eval x = .slice (some ad) k c)
    (h : ∀ v' w', Row w2 w' e size v' (n + k) (xs ++ news) → wpList P ops Q rest (a.put o.dst v') w') : wpList P ops Q (o :: rest) a wr := by
  obtain ⟨i, z, hi, hz, h2, h3, h4⟩ := hI.info
  refine wpList_append_own wr hgd s x t ho w2.heap.size e i z size bytes hI.under hi hz h2 h3 h4 hI.pos v n xs hs hG.own ad k c news hx hlen hcells h1 ?_ ?_ ?_ ?_
  · simp only [maxLen]; omega
  · have := Nat.mul_le_mul hn hb
    omega
  · exact hG.below.size
  · intro v' w' hown hgrow _
    exact h v' w' (hG.app hown hgrow)

/-- A literal. -/
theorem Row.lit (h : Below w2.heap.size w2 wr) (cs : Array Value) (n : Nat) (hm : n ≤ maxLen) (hs : cs.size = n * size) : Row w2 (wr.alloc (.cells cs e)) e size (.slice (some ⟨wr.heap.size, 0, none⟩) n n) n cs.toList :=
  ⟨World.ownsRow_lit wr cs n h.size hm hs, below_alloc h _⟩

/-- A store into a cell of the row. -/
theorem Row.stored {g cap : Nat} (h : Row w2 wr e size (.slice (some ⟨g, 0, none⟩) n cap) n xs) (j : Nat) (u : Value) : Row w2 (wr.setCell ⟨g, j, none⟩ u) e size (.slice (some ⟨g, 0, none⟩) n cap) n (xs.set j u) := by
  obtain ⟨h1, h2⟩ := h.own.stored j u
  exact h.app h1 h2

theorem Row.cellAt {g cap : Nat} (h : Row w2 wr e size (.slice (some ⟨g, 0, none⟩) n cap) n xs) (j : Nat) (hj : j < n * size) : wr.cell? ⟨g, j, none⟩ = xs[j]? := h.own.cellAt j hj
theorem Row.frozenAt {g cap : Nat} (h : Row w2 wr e size (.slice (some ⟨g, 0, none⟩) n cap) n xs) (j : Nat) : wr.frozen? ⟨g, j, none⟩ = false := h.own.frozenAt j
theorem Row.block {g cap : Nat} (h : Row w2 wr e size (.slice (some ⟨g, 0, none⟩) n cap) n xs) : w2.heap.size ≤ g ∧ g < wr.heap.size := h.own.lt g rfl
theorem Row.some_of (h : Row w2 wr e size v n xs) (hn : 0 < n) : ∃ g cap, v = .slice (some ⟨g, 0, none⟩) n cap ∧ w2.heap.size ≤ g ∧ n ≤ cap := by
  rcases h.own.2 with ⟨_, h0⟩ | ⟨g, cap, _, hv, hg, _, hc, _⟩
  · omega
  · exact ⟨g, cap, hv, hg, hc⟩
end
end
/-! ### GrowN -/
section
open Go.RowKit

theorem Grow.row {w2 wr : World} {e : TypeId} {size : Nat} {t : TypeId} {cs : Array Value} {v : Value} {n : Nat} {xs : List Value} (h : Grow w2 wr e size t cs v n xs) : Row w2 wr e size v n xs := by
  refine ⟨⟨h.own.1, ?_⟩, h.below⟩
  rcases h.own.2 with h0 | ⟨g, cap, cur, hv, hg, h2⟩
  · exact .inl h0
  · exact .inr ⟨g, cap, cur, hv, by omega, h2⟩

theorem Grow.cast {w2 wr : World} {e : TypeId} {size : Nat} {t : TypeId} {cs cs' : Array Value} {v : Value} {n n' : Nat} {xs xs' : List Value} (h : Grow w2 wr e size t cs v n xs) (hc : cs = cs') (hn : n = n') (hx : xs = xs') : Grow w2 wr e size t cs' v n' xs' := by
  subst hc; subst hn; subst hx; exact h

/-- append(s, x), one element, beside a box of the call's own. -/
theorem wp_append1G {P : Program} {w2 wr : World} {t e : TypeId} {size bytes : Nat} {v : Value} {n : Nat} {xs news : List Value} {tb : TypeId} {cs : Array Value} {ops : Array Oper} {rest : List Oper} {o : Oper} {a : Act} {Q : Exit → Act → World → Prop} (hI : ElemI P t e size bytes) (hG : Grow w2 wr e size tb cs v n xs)
    (hn : n + 1 ≤ 1000000000) (hb : bytes ≤ 100000) (hlen : news.length = size) (h1 : ∀ u ∈ news, u.oneCell' = true)
    (hgd : o.guard = none) (s x : Operand) (ho : o.op = .call { callee := .builtin .append, args := #[s, x], argTypes := #[t, t] }) (hs : a.eval s = v) {B : Nat} (hB : B = wr.heap.size) (hx : a.eval x = .slice (some ⟨B, 0, none⟩) 1 1)
    (h : ∀ v' w', Grow w2 w' e size tb cs v' (n + 1) (xs ++ news) → wpList P ops Q rest (a.put o.dst v') w') : wpList P ops Q (o :: rest) a (wr.alloc (.cells news.toArray e)) := by
  subst hB
  obtain ⟨i, z, hi, hz, h2, h3, h4⟩ := hI.info
  refine wpList_append_own (wr.alloc (.cells news.toArray e)) hgd s x t ho (w2.heap.size + 1) e i z size bytes hI.under hi hz h2 h3 h4 hI.pos v n xs hs (hG.own.alloc _) ⟨wr.heap.size, 0, none⟩ 1 1 news hx (by rw [hlen, Nat.one_mul]) ?_ h1 ?_ ?_ ?_ ?_
  · intro j u hj
    have := (Blk.new wr e news.toArray).cell j
    unfold Addr.add
    split
    · rename_i h0
      subst h0
      exact this.trans (by simpa using hj)
    · show World.cell? _ ⟨wr.heap.size, 0 + j, none⟩ = _
      rw [Nat.zero_add]
      exact this.trans (by simpa using hj)
  · simp only [maxLen]; omega
  · have := Nat.mul_le_mul hn hb
    omega
  · rw [World.size_alloc]
    have := hG.base
    omega
  · intro v' w' hown hgrow _
    exact h v' w' ((hG.alloc _).app hown hgrow)

theorem oneI (x : Int) : ∀ u ∈ [Value.int .i64 x], u.oneCell' = true := fun u hu => by simp at hu; subst hu; rfl
theorem oneI2 (x y : Int) : ∀ u ∈ [Value.int .i64 x, .int .i64 y], u.oneCell' = true := fun u hu => by simp at hu; rcases hu with rfl | rfl <;> rfl

/-- The row read as a slice of integers. -/
theorem Row.ints' {w2 wr : World} {e : TypeId} {l : List Int} {g cap n : Nat} (h : Row w2 wr e 1 (.slice (some ⟨g, 0, none⟩) n cap) n (l.map (Value.int .i64 ·))) (hn : l.length = n) : Ints wr (some ⟨g, 0, none⟩) l := fun i hi => by
  refine ⟨g, 0, rfl, ?_⟩
  rw [Nat.zero_add, h.cellAt i (by omega)]
  simp [List.getD_eq_getElem?_getD, hi]
theorem Row.ints'' {w2 wr : World} {e : TypeId} {l : List Int} {g cap m n : Nat} (h : Row w2 wr e 1 (.slice (some ⟨g, 0, none⟩) m cap) n (l.map (Value.int .i64 ·))) (hm : m = n) (hn : l.length = n) : Ints wr (some ⟨g, 0, none⟩) l := by
  subst hm
  exact h.ints' hn
end
/-! ### KitB -/
section
open Go.RowKit

section
variable {P : Program} {ops : Array Oper} {Inv J : World → Prop}

/-- The operation comes to v, and leaves all that was there as it was. -/
def YieldsB (P : Program) (J : World → Prop) (o : Oper) (v : Value) (a : Act) : Prop :=
  ∀ w, J w → Gives P (fun w' => Below w.heap.size w w') v ((execOp a.eval o).run P w)

theorem YieldsB.inv {o : Oper} {v : Value} {a : Act} {K : World → Prop} (h : YieldsB P J o v a) (hK : ∀ w, K w → J w) (hS : ∀ w w', K w → Below w.heap.size w w' → K w') : YieldsInv P K o v a := by
  intro w hk
  have hg := h w (hK w hk)
  generalize (execOp a.eval o).run P w = r at hg
  cases r with
  | halt x w' => exact hg.elim
  | ok nx w' =>
    cases nx <;> simp only [Gives] at hg ⊢
    case value u => exact ⟨hg.1, hS _ _ hk hg.2⟩
    case skip => exact ⟨hg.1, hS _ _ hk hg.2⟩
    case enter f args => exact Calls.mono hg (fun e w'' hh => ⟨hh.1, hS _ _ hk hh.2⟩)

def wpB (P : Program) (ops : Array Oper) (J : World → Prop) (R : Act → Prop) : List Oper → Act → Prop
  | [], a => R a
  | o :: rest, a =>
    if Region.wanted o (yielded ops a.tmps) then ∃ v, YieldsB P J o v a ∧ wpB P ops J R rest (a.put o.dst v)
    else wpB P ops J R rest (a.put o.dst undef)

def SettledB (P : Program) (ops : Array Oper) (J : World → Prop) (o : Oper) (A : Act) : Prop :=
  (Region.wanted o (yielded ops A.tmps) = true → ∃ v, YieldsB P J o v A ∧ A.put o.dst v = A) ∧
  (Region.wanted o (yielded ops A.tmps) = false → A.put o.dst undef = A)

theorem SettledB.inv {o : Oper} {A : Act} {K : World → Prop} (h : SettledB P ops J o A) (hK : ∀ w, K w → J w) (hS : ∀ w w', K w → Below w.heap.size w w' → K w') : Settled P ops K o A :=
  ⟨fun hw => let ⟨v, hy, hv⟩ := h.1 hw; ⟨v, hy.inv hK hS, hv⟩, h.2⟩

/-- The walk in the text's order gives the frame at the end, at which every operation is settled. -/
theorem wpB_settles {R : Act → Prop} (hsel : ∀ o ∈ ops.toList, ∀ cs b, o.op ≠ .select cs b) :
    ∀ (l : List Oper), (∀ o ∈ l, o ∈ ops.toList) →
      (l.Pairwise fun o o' => ∀ d, o'.dst = some d → o.dst ≠ some d ∧ d ∉ o.looksAt ops) → (∀ o ∈ l, ∀ d, o.dst = some d → d ∉ o.looksAt ops) →
      ∀ a, wpB P ops J R l a → ∃ A, R A ∧ A.tmps.size = a.tmps.size ∧ A.defers = a.defers ∧
        (∀ t, (∀ o ∈ l, o.dst ≠ some t) → A.tmps[t]? = a.tmps[t]?) ∧ ∀ o ∈ l, SettledB P ops J o A := by
  intro l
  induction l with
  | nil => intro _ _ _ a h; exact ⟨a, h, rfl, rfl, fun _ _ => rfl, fun o ho => by cases ho⟩
  | cons o rest ih =>
    intro hmem hpw hown a h
    rw [List.pairwise_cons] at hpw
    have hlook : ∀ {A : Act} {v : Value}, (∀ t, (∀ o' ∈ rest, o'.dst ≠ some t) → A.tmps[t]? = (a.put o.dst v).tmps[t]?) → ∀ t ∈ o.looksAt ops, a.tmps[t]? = A.tmps[t]? := by
      intro A v hA t ht
      have h1 : ∀ o' ∈ rest, o'.dst ≠ some t := fun o' ho' hd => (hpw.1 o' ho' t hd).2 ht
      rw [hA t h1, put_get_ne]
      intro hd
      exact hown o (List.mem_cons_self ..) t hd ht
    have hself : ∀ {A : Act} {v : Value}, A.tmps.size = (a.put o.dst v).tmps.size → (∀ t, (∀ o' ∈ rest, o'.dst ≠ some t) → A.tmps[t]? = (a.put o.dst v).tmps[t]?) → A.put o.dst v = A := by
      intro A v hsz hA
      refine put_self (a := a) (fun d hd => ?_) (by rw [hsz, put_size])
      exact hA d (fun o' ho' hd' => (hpw.1 o' ho' d hd').1 hd)
    unfold wpB at h
    split at h
    · rename_i hw
      obtain ⟨v, hy, hr⟩ := h
      obtain ⟨A, hRA, hsz, hdf, hA, hset⟩ := ih (fun o' ho' => hmem o' (List.mem_cons_of_mem _ ho')) hpw.2 (fun o' ho' => hown o' (List.mem_cons_of_mem _ ho')) _ hr
      have hl := hlook hA
      have he := exec_of_agree (ops := ops) (hsel o (hmem o (List.mem_cons_self ..))) hl
      have hwn := wanted_of_agree (ops := ops) hl
      refine ⟨A, hRA, by rw [hsz, put_size], by rw [hdf, put_defers'], fun t ht => ?_, fun o' ho' => ?_⟩
      · rw [hA t (fun o' ho' => ht o' (List.mem_cons_of_mem _ ho')), put_get_ne (ht o (List.mem_cons_self ..))]
      · rcases List.mem_cons.1 ho' with rfl | ho'
        · refine ⟨fun _ => ⟨v, ?_, hself hsz hA⟩, fun hf => ?_⟩
          · intro w hJ
            rw [← he]
            exact hy w hJ
          · rw [← hwn, hw] at hf; cases hf
        · exact hset o' ho'
    · rename_i hw
      obtain ⟨A, hRA, hsz, hdf, hA, hset⟩ := ih (fun o' ho' => hmem o' (List.mem_cons_of_mem _ ho')) hpw.2 (fun o' ho' => hown o' (List.mem_cons_of_mem _ ho')) _ h
      have hl := hlook hA
      have hwn := wanted_of_agree (ops := ops) hl
      refine ⟨A, hRA, by rw [hsz, put_size], by rw [hdf, put_defers'], fun t ht => ?_, fun o' ho' => ?_⟩
      · rw [hA t (fun o' ho' => ht o' (List.mem_cons_of_mem _ ho')), put_get_ne (ht o (List.mem_cons_self ..))]
      · rcases List.mem_cons.1 ho' with rfl | ho'
        · refine ⟨fun hf => ?_, fun _ => hself hsz hA⟩
          rw [← hwn] at hf; exact absurd hf hw
        · exact hset o' ho'

theorem wpAny_invX {n : Nat} {A : Act} (X : Nat → Prop) {Q : Exit → Act → World → Prop} (hB : orderOk ops n = true) (hset : ∀ i o, i < n → ¬ X i → ops[i]? = some o → Settled P ops Inv o A)
    (hR : ∀ w, Inv w → wpList P ops Q (ops.toList.drop n) A w) :
    ∀ (m : Nat) (listed : Array Bool) (a : Act) (w : World), unl n listed = m → (∀ i, X i → listed.getD i true = true) → Upto ops n A listed a → Inv w → wpAny P .any ops Q (m + (ops.size - n)) listed a w := by
  simp only [orderOk, Bool.and_eq_true, Bool.or_eq_true, decide_eq_true_eq] at hB
  obtain ⟨⟨hI, hT⟩, hseq⟩ := hB
  obtain ⟨hsel, hnle, hback, hdis⟩ := invOk_spec hI
  intro m
  induction m with
  | zero =>
    intro listed a w hm hX hU hInv
    have hall : ∀ i, i < n → listed.getD i true = true := by
      intro i hi
      unfold unl at hm
      rw [List.countP_eq_zero] at hm
      have := hm i (List.mem_range.2 hi)
      simpa using this
    have ha : a = A := by
      have h1 : a.tmps = A.tmps := by
        apply Array.ext_getElem?
        intro t
        refine hU.agree t (fun j oj hj _ hun => ?_)
        rw [hall j hj] at hun; cases hun
      have h2 := hU.dfs
      cases a; cases A; simp_all
    have hl : listed = finL ops.size n := by
      apply Array.ext_getElem?
      intro i
      rcases Nat.lt_or_ge i ops.size with hi | hi
      · have hi' : i < listed.size := by rw [hU.head.size]; exact hi
        by_cases hin : i < n
        · have := hall i hin
          simp [hi'] at this
          simp [finL, hi, hi', hin, this]
        · have := hU.head.tail i (by omega) hi
          simp [hi'] at this
          simp [finL, hi, hi', hin, this]
      · have hi' : listed.size ≤ i := by rw [hU.head.size]; exact hi
        simp [finL, hi, hi']
    subst ha
    subst hl
    have := wpAny_of_seq (P := P) (md := .any) (Q' := Q) (ops.toList.drop n) n (finL ops.size n) a w (fun j => by simp [List.getElem?_drop]) (by simpa using hseq) (hR w hInv)
    simpa using this
  | succ m ih =>
    intro listed a w hm hX hU hInv
    have hex : ∃ i, i < n ∧ listed.getD i true = false := by
      have : 0 < unl n listed := by omega
      unfold unl at this
      rw [List.countP_pos_iff] at this
      obtain ⟨i, hi, h⟩ := this
      exact ⟨i, List.mem_range.1 hi, by simpa using h⟩
    have hsmall : ∀ k i, i ≤ k → i < n → listed.getD i true = false → ∃ j, j ∈ Region.ready .any ops listed := by
      intro k
      induction k with
      | zero =>
        intro i hi hin hun
        have hlt : i < ops.size := by omega
        refine ⟨i, mem_ready.2 ⟨hun, ops[i], by simp [hlt], fun e he hbd => ?_⟩⟩
        have := hback i ops[i] (by simp [hlt]) e he hbd
        omega
      | succ k ihk =>
        intro i hi hin hun
        have hlt : i < ops.size := by omega
        by_cases hex2 : ∃ e ∈ (ops[i]).after, Region.binds .any e = true ∧ listed.getD e.on false = false
        · obtain ⟨e, he, hbd, hf⟩ := hex2
          have hlt2 := hback i ops[i] (by simp [hlt]) e he hbd
          exact ihk e.on (by omega) (by omega) (getD_in (by rw [hU.head.size]; omega) hf)
        · refine ⟨i, mem_ready.2 ⟨hun, ops[i], by simp [hlt], fun e he hbd => ?_⟩⟩
          cases hf : listed.getD e.on false with
          | true => rfl
          | false => exact absurd ⟨e, he, hbd, hf⟩ hex2
    obtain ⟨i0, hi0, hun0⟩ := hex
    obtain ⟨j0, hj0⟩ := hsmall i0 i0 (Nat.le_refl _) hi0 hun0
    rw [show m + 1 + (ops.size - n) = (m + (ops.size - n)) + 1 by omega]
    refine ⟨fun h => (by rw [h] at hj0; cases hj0), fun i hi => ?_⟩
    obtain ⟨hiun, oi, hoi, hall⟩ := mem_ready.1 hi
    have hin : i < n := by
      rcases Nat.lt_or_ge i n with h | h
      · exact h
      · have hilt := (Array.getElem?_eq_some_iff.1 hoi).1
        rcases hT with hT | ⟨hs, hc⟩
        · omega
        · exact absurd hi (tail_waits hs hc (by omega) hU.head _ i0 rfl hi0 hun0 i h)
    have hag : ∀ t ∈ oi.looksAt ops, a.tmps[t]? = A.tmps[t]? := by
      intro t ht
      refine hU.agree t (fun j oj hj hoj hun hd => ?_)
      obtain ⟨_, h2⟩ := hdis i oi j oj t hoi hoj hin hj hd
      obtain ⟨hji, hwf⟩ := h2 ht
      obtain ⟨o', ho', e, he, hb, hon⟩ := Region.waitsFor_spec hwf
      have : o' = oi := Option.some.inj (ho'.symm.trans hoi)
      subst this
      have h3 := hall e he hb
      rw [hon, getD_both hun] at h3
      cases h3
    have he := exec_of_agree (ops := ops) (hsel oi (by
      have := Array.mem_of_getElem? hoi
      simpa using this)) hag
    have hwn := wanted_of_agree (ops := ops) hag
    have hU' : ∀ v, A.put oi.dst v = A → Upto ops n A (listed.setIfInBounds i true) (a.put oi.dst v) := by
      intro v hv
      refine ⟨hU.head.set hi hin, by rw [put_defers']; exact hU.dfs, by rw [put_size]; exact hU.sz, fun t ht => ?_⟩
      by_cases hd : oi.dst = some t
      · rw [← hv, hd]
        by_cases hlt : t < a.tmps.size
        · have hlt' : t < A.tmps.size := by rw [← hU.sz]; exact hlt
          simp [Act.put, hlt, hlt']
        · have hlt' : ¬ t < A.tmps.size := by rw [← hU.sz]; exact hlt
          simp [Act.put, hlt, hlt']
      · rw [put_get_ne hd]
        refine hU.agree t (fun j oj hj hoj hun hdj => ?_)
        by_cases hji : j = i
        · subst hji
          have : oj = oi := Option.some.inj (hoj.symm.trans hoi)
          subst this
          exact hd hdj
        · exact ht j oj hj hoj (by rw [getD_set_ne true (Ne.symm hji)]; exact hun) hdj
    have hun' : unl n (listed.setIfInBounds i true) = m := by
      have := unl_set hin hiun
      omega
    have hnX : ¬ X i := fun h => by rw [hX i h] at hiun; cases hiun
    have hX' : ∀ j, X j → (listed.setIfInBounds i true).getD j true = true := fun j hj => by
      have hne : i ≠ j := fun e => hnX (e ▸ hj)
      rw [getD_set_ne true hne]
      exact hX j hj
    have hS := hset i oi hin hnX hoi
    unfold wpOp
    simp only [hoi]
    by_cases hw : Region.wanted oi (yielded ops A.tmps) = true
    · obtain ⟨v, hy, hv⟩ := hS.1 hw
      rw [hwn, if_pos hw]
      refine .inl ?_
      unfold Oper.wp
      rw [he]
      have hg := hy w hInv
      generalize (execOp A.eval oi).run P w = r at hg
      cases r with
      | halt x w' => exact hg.elim
      | ok nx w' =>
        cases nx <;> simp only [Gives] at hg <;> simp only [Oper.upon]
        case value u =>
          obtain ⟨rfl, hI'⟩ := hg
          exact ih _ _ _ hun' hX' (hU' _ hv) hI'
        case skip =>
          obtain ⟨rfl, hI'⟩ := hg
          exact ih _ _ _ hun' hX' (hU' _ hv) hI'
        case enter f args =>
          refine Calls.mono hg (fun e w'' ⟨hee, hI'⟩ => ?_)
          subst hee
          exact ih _ _ _ hun' hX' (hU' _ hv) hI'
    · have hw' : Region.wanted oi (yielded ops A.tmps) = false := by simpa using hw
      rw [hwn, if_neg hw]
      exact ih _ _ _ hun' hX' (hU' _ (hS.2 hw')) hInv


/-- Written into a slot that the operation neither reads nor writes: settled as before. -/
theorem SettledB.put {o : Oper} {A : Act} {s : Tmp} {u : Value} (hsel : ∀ cs b, o.op ≠ .select cs b) (h : SettledB P ops J o A) (hl : s ∉ o.looksAt ops) (hd : o.dst ≠ some s) : SettledB P ops J o (A.put (some s) u) := by
  have hag : ∀ t ∈ o.looksAt ops, A.tmps[t]? = (A.put (some s) u).tmps[t]? := fun t ht => by
    rw [put_get_ne]
    intro e
    cases e
    exact hl ht
  have he := exec_of_agree (ops := ops) hsel hag
  have hwn := wanted_of_agree (ops := ops) (o := o) hag
  have hcomm : ∀ v, A.put o.dst v = A → (A.put (some s) u).put o.dst v = A.put (some s) u := by
    intro v hv
    cases hdst : o.dst with
    | none => rfl
    | some d =>
      have hne : d ≠ s := fun e => hd (by rw [hdst, e])
      rw [hdst] at hv
      show ({ A with tmps := (A.tmps.setIfInBounds s u).setIfInBounds d v } : Act) = _
      have h1 : A.tmps.setIfInBounds d v = A.tmps := congrArg Act.tmps hv
      have h2 : (A.tmps.setIfInBounds s u).setIfInBounds d v = A.tmps.setIfInBounds s u := by
        rw [Array.setIfInBounds_comm _ _ (Ne.symm hne), h1]
      rw [h2]
      rfl
  refine ⟨fun hw => ?_, fun hw => ?_⟩
  · rw [← hwn] at hw
    obtain ⟨v, hy, hv⟩ := h.1 hw
    refine ⟨v, fun w hj => ?_, hcomm v hv⟩
    rw [← he]
    exact hy w hj
  · rw [← hwn] at hw
    exact hcomm _ (h.2 hw)

/-- One operation (number k) makes a block, at whatever time; the others leave all that was there as it was. -/
theorem wpAny_one {n k : Nat} {A : Act} {ok : Oper} {s : Tmp} {obj : Obj} {mk : Nat → Value} {base : Nat} {Q : Exit → Act → World → Prop} (hB : orderOk ops n = true)
    (hk : k < n) (hok : ops[k]? = some ok) (hdst : ok.dst = some s) (hgd : ok.guard = none)
    (hlook : ∀ i oi, i < n → ops[i]? = some oi → s ∉ oi.looksAt ops)
    (hJ : ∀ w w', J w → Below w.heap.size w w' → J w') (hbase : ∀ w, J w → base ≤ w.heap.size)
    (hrun : ∀ w, J w → (execOp A.eval ok).run P w = .ok (.value (mk w.heap.size)) (w.alloc obj))
    (hset : ∀ i o, i < n → i ≠ k → ops[i]? = some o → SettledB P ops J o A)
    (hR : ∀ g w, base ≤ g → J w → w.heap[g]? = some obj → wpList P ops Q (ops.toList.drop n) (A.put (some s) (mk g)) w) :
    ∀ (m : Nat) (listed : Array Bool) (a : Act) (w : World), unl n listed = m → listed.getD k true = false → Upto ops n A listed a → J w → wpAny P .any ops Q (m + (ops.size - n)) listed a w := by
  have hB' := hB
  simp only [orderOk, Bool.and_eq_true, Bool.or_eq_true, decide_eq_true_eq] at hB'
  obtain ⟨⟨hI, hT⟩, _⟩ := hB'
  obtain ⟨hsel, hnle, hback, hdis⟩ := invOk_spec hI
  intro m
  induction m with
  | zero =>
    intro listed a w hm hkun hU hInv
    unfold unl at hm
    rw [List.countP_eq_zero] at hm
    have := hm k (List.mem_range.2 hk)
    simp only [hkun] at this
    exact absurd rfl this
  | succ m ih =>
    intro listed a w hm hkun hU hInv
    have hsmall : ∀ k i, i ≤ k → i < n → listed.getD i true = false → ∃ j, j ∈ Region.ready .any ops listed := by
      intro k
      induction k with
      | zero =>
        intro i hi hin hun
        have hlt : i < ops.size := by omega
        refine ⟨i, mem_ready.2 ⟨hun, ops[i], by simp [hlt], fun e he hbd => ?_⟩⟩
        have := hback i ops[i] (by simp [hlt]) e he hbd
        omega
      | succ k ihk =>
        intro i hi hin hun
        have hlt : i < ops.size := by omega
        by_cases hex2 : ∃ e ∈ (ops[i]).after, Region.binds .any e = true ∧ listed.getD e.on false = false
        · obtain ⟨e, he, hbd, hf⟩ := hex2
          have hlt2 := hback i ops[i] (by simp [hlt]) e he hbd
          exact ihk e.on (by omega) (by omega) (getD_in (by rw [hU.head.size]; omega) hf)
        · refine ⟨i, mem_ready.2 ⟨hun, ops[i], by simp [hlt], fun e he hbd => ?_⟩⟩
          cases hf : listed.getD e.on false with
          | true => rfl
          | false => exact absurd ⟨e, he, hbd, hf⟩ hex2
    obtain ⟨j0, hj0⟩ := hsmall k k (Nat.le_refl _) hk hkun
    rw [show m + 1 + (ops.size - n) = (m + (ops.size - n)) + 1 by omega]
    refine ⟨fun h => (by rw [h] at hj0; cases hj0), fun i hi => ?_⟩
    obtain ⟨hiun, oi, hoi, hall⟩ := mem_ready.1 hi
    have hin : i < n := by
      rcases Nat.lt_or_ge i n with h | h
      · exact h
      · have hilt := (Array.getElem?_eq_some_iff.1 hoi).1
        rcases hT with hT | ⟨hs, hc⟩
        · omega
        · exact absurd hi (tail_waits hs hc (by omega) hU.head _ k rfl hk hkun i h)
    have hag : ∀ t ∈ oi.looksAt ops, a.tmps[t]? = A.tmps[t]? := by
      intro t ht
      refine hU.agree t (fun j oj hj hoj hun hd => ?_)
      obtain ⟨_, h2⟩ := hdis i oi j oj t hoi hoj hin hj hd
      obtain ⟨hji, hwf⟩ := h2 ht
      obtain ⟨o', ho', e, he, hb, hon⟩ := Region.waitsFor_spec hwf
      have : o' = oi := Option.some.inj (ho'.symm.trans hoi)
      subst this
      have h3 := hall e he hb
      rw [hon, getD_both hun] at h3
      cases h3
    have hselI : ∀ cs b, oi.op ≠ .select cs b := hsel oi (by
      have := Array.mem_of_getElem? hoi
      simpa using this)
    have he := exec_of_agree (ops := ops) hselI hag
    have hwn := wanted_of_agree (ops := ops) hag
    have hun' : unl n (listed.setIfInBounds i true) = m := by
      have := unl_set hin hiun
      omega
    by_cases hik : i = k
    · subst hik
      obtain rfl : oi = ok := Option.some.inj (hoi.symm.trans hok)
      unfold wpOp
      simp only [hoi]
      have hwt : Region.wanted oi (yielded ops a.tmps) = true := by simp [Region.wanted, hgd]
      rw [if_pos hwt]
      refine .inl ?_
      unfold Oper.wp
      rw [he, hrun w hInv]
      simp only [Oper.upon]
      rw [hdst]
      have hb1 : Below w.heap.size w (w.alloc obj) := (Below.refl _ _).alloc (Nat.le_refl _) obj
      refine wpAny_invX (P := P) (Inv := fun w' => J w' ∧ w'.heap[w.heap.size]? = some obj) (A := A.put (some s) (mk w.heap.size)) (· = i) hB (fun j o hj hne hoj => ?_)
        (fun w' hw' => hR _ w' (hbase w hInv) hw'.1 hw'.2) m _ _ _ hun' (fun j hj => ?_) ⟨hU.head.set hi hin, ?_, ?_, fun t ht => ?_⟩ ⟨hJ _ _ hInv hb1, heap_alloc_new w obj⟩
      · have hselJ : ∀ cs b, o.op ≠ .select cs b := hsel o (by
          have := Array.mem_of_getElem? hoj
          simpa using this)
        have hdo : o.dst ≠ some s := (hdis j o i oi s hoj hoi hj hin hdst).1 hne
        refine (SettledB.put hselJ (hset j o hj hne hoj) (hlook j o hj hoj) hdo).inv (fun _ h => h.1) (fun w1 w2 h1 h2 => ⟨hJ _ _ h1.1 h2, ?_⟩)
        have hlt : w.heap.size < w1.heap.size := (Array.getElem?_eq_some_iff.1 h1.2).1
        exact (h2.block _ hlt).trans h1.2
      · subst hj
        have : j < listed.size := by rw [hU.head.size]; omega
        simp [this]
      · rw [put_defers', put_defers']; exact hU.dfs
      · rw [put_size, put_size]; exact hU.sz
      · by_cases hts : t = s
        · subst hts
          by_cases hlt : t < a.tmps.size
          · have hlt' : t < A.tmps.size := by rw [← hU.sz]; exact hlt
            simp [Act.put, hlt, hlt']
          · have hlt' : ¬ t < A.tmps.size := by rw [← hU.sz]; exact hlt
            simp [Act.put, hlt, hlt']
        · have hne : some s ≠ some t := fun e => hts (by cases e; rfl)
          rw [put_get_ne hne, put_get_ne hne]
          refine hU.agree t (fun j oj hj hoj hun hdj => ?_)
          by_cases hji : j = i
          · subst hji
            obtain rfl : oj = oi := Option.some.inj (hoj.symm.trans hoi)
            rw [hdst] at hdj
            exact hne hdj
          · exact ht j oj hj hoj (by rw [getD_set_ne true (Ne.symm hji)]; exact hun) hdj
    · have hU' : ∀ v, A.put oi.dst v = A → Upto ops n A (listed.setIfInBounds i true) (a.put oi.dst v) := by
        intro v hv
        refine ⟨hU.head.set hi hin, by rw [put_defers']; exact hU.dfs, by rw [put_size]; exact hU.sz, fun t ht => ?_⟩
        by_cases hd : oi.dst = some t
        · rw [← hv, hd]
          by_cases hlt : t < a.tmps.size
          · have hlt' : t < A.tmps.size := by rw [← hU.sz]; exact hlt
            simp [Act.put, hlt, hlt']
          · have hlt' : ¬ t < A.tmps.size := by rw [← hU.sz]; exact hlt
            simp [Act.put, hlt, hlt']
        · rw [put_get_ne hd]
          refine hU.agree t (fun j oj hj hoj hun hdj => ?_)
          by_cases hji : j = i
          · subst hji
            have : oj = oi := Option.some.inj (hoj.symm.trans hoi)
            subst this
            exact hd hdj
          · exact ht j oj hj hoj (by rw [getD_set_ne true (Ne.symm hji)]; exact hun) hdj
      have hk' : (listed.setIfInBounds i true).getD k true = false := by rw [getD_set_ne true hik]; exact hkun
      have hS := (hset i oi hin hik hoi).inv (K := J) (fun _ h => h) hJ
      unfold wpOp
      simp only [hoi]
      by_cases hw : Region.wanted oi (yielded ops A.tmps) = true
      · obtain ⟨v, hy, hv⟩ := hS.1 hw
        rw [hwn, if_pos hw]
        refine .inl ?_
        unfold Oper.wp
        rw [he]
        have hg := hy w hInv
        generalize (execOp A.eval oi).run P w = r at hg
        cases r with
        | halt x w' => exact hg.elim
        | ok nx w' =>
          cases nx <;> simp only [Gives] at hg <;> simp only [Oper.upon]
          case value u =>
            obtain ⟨rfl, hI'⟩ := hg
            exact ih _ _ _ hun' hk' (hU' _ hv) hI'
          case skip =>
            obtain ⟨rfl, hI'⟩ := hg
            exact ih _ _ _ hun' hk' (hU' _ hv) hI'
          case enter f args =>
            refine Calls.mono hg (fun e w'' ⟨hee, hI'⟩ => ?_)
            subst hee
            exact ih _ _ _ hun' hk' (hU' _ hv) hI'
      · have hw' : Region.wanted oi (yielded ops A.tmps) = false := by simpa using hw
        rw [hwn, if_neg hw]
        exact ih _ _ _ hun' hk' (hU' _ (hS.2 hw')) hInv

/-- Nothing among the first n reads the slot of operation k, which is not guarded. -/
def freshOk (ops : Array Oper) (n k : Nat) (s : Tmp) : Bool :=
  decide (k < n) && (match ops[k]? with | some o => o.dst == some s && o.guard.isNone | none => false) && (List.range n).all fun i => match ops[i]? with | none => true | some o => !(o.looksAt ops).contains s

theorem freshOk_spec {n k : Nat} {s : Tmp} (h : freshOk ops n k s = true) : k < n ∧ (∃ ok, ops[k]? = some ok ∧ ok.dst = some s ∧ ok.guard = none) ∧ ∀ i oi, i < n → ops[i]? = some oi → s ∉ oi.looksAt ops := by
  unfold freshOk at h
  simp only [Bool.and_eq_true, decide_eq_true_eq] at h
  obtain ⟨⟨h1, h2⟩, h3⟩ := h
  refine ⟨h1, ?_, fun i oi hi hoi => ?_⟩
  · cases hk : ops[k]? with
    | none => rw [hk] at h2; cases h2
    | some o =>
      rw [hk] at h2
      simp only [Bool.and_eq_true, beq_iff_eq, Option.isNone_iff_eq_none] at h2
      exact ⟨o, rfl, h2.1, h2.2⟩
  · rw [List.all_eq_true] at h3
    have := h3 i (List.mem_range.2 hi)
    simp only [hoi, Bool.not_eq_true', List.contains_eq_mem, decide_eq_false_iff_not] at this
    exact this

section
variable {l : List Oper}
theorem walk_facts {n : Nat} (hB : orderOk l.toArray n = true) : (∀ o ∈ l, ∀ cs b, o.op ≠ .select cs b) ∧ n ≤ l.length ∧ ((l.take n).Pairwise fun o o' => ∀ d, o'.dst = some d → o.dst ≠ some d ∧ d ∉ o.looksAt l.toArray) ∧ (∀ o ∈ l.take n, ∀ d, o.dst = some d → d ∉ o.looksAt l.toArray) ∧ (∀ o ∈ l.take n, ∃ i, i < n ∧ l[i]? = some o) := by
  have hB' := hB
  simp only [orderOk, Bool.and_eq_true] at hB'
  obtain ⟨hsel, hnle, hback, hdis⟩ := invOk_spec hB'.1.1
  have hget : ∀ o ∈ l.take n, ∃ i, i < n ∧ l[i]? = some o := by
    intro o ho
    obtain ⟨i, hi⟩ := List.getElem?_of_mem ho
    have hlt : i < n := by
      rw [List.getElem?_take] at hi
      split at hi
      · assumption
      · cases hi
    exact ⟨i, hlt, by rw [List.getElem?_take_of_lt hlt] at hi; exact hi⟩
  refine ⟨by simpa using hsel, by simpa using hnle, ?_, ?_, hget⟩
  · rw [List.pairwise_iff_getElem]
    intro i j hi hj hij d hd
    have hi' : i < n ∧ i < l.length := by rw [List.length_take] at hi; omega
    have hj' : j < n ∧ j < l.length := by rw [List.length_take] at hj; omega
    have e1 : (l.take n)[i] = l[i]'hi'.2 := by simp
    have e2 : (l.take n)[j] = l[j]'hj'.2 := by simp
    rw [e2] at hd
    rw [e1]
    have := hdis i (l[i]'hi'.2) j (l[j]'hj'.2) d (by simp [hi'.2]) (by simp [hj'.2]) hi'.1 hj'.1 hd
    exact ⟨this.1 (by omega), fun hl => by have := (this.2 hl).1; omega⟩
  · intro o ho d hd hl
    obtain ⟨i, hi, hio⟩ := hget o ho
    have := (hdis i o i o d (by simpa using hio) (by simpa using hio) hi hi hd).2 hl
    omega

theorem unl_none (n m : Nat) (h : n ≤ m) : unl n (Array.replicate m false) = n := by
  unfold unl
  rw [List.countP_eq_length.2, List.length_range]
  intro i hi
  have : i < m := by have := List.mem_range.1 hi; omega
  simp [this]

/-- Whatever order is drawn. -/
theorem wpAny_B {Q : Exit → Act → World → Prop} {a : Act} {w : World} (n : Nat) (J : World → Prop) (hB : orderOk l.toArray n = true)
    (hJ : ∀ w w', J w → Below w.heap.size w w' → J w') (h0 : J w.drew) (h' : ∀ R : Act → Prop, (∀ A, (∀ w', J w' → wpList P l.toArray Q (l.drop n) A w') → R A) → wpB P l.toArray J R (l.take n) a) : wpAny P .any l.toArray Q l.toArray.size (Array.replicate l.toArray.size false) a w.drew := by
  have h := h' (fun A => ∀ w', J w' → wpList P l.toArray Q (l.drop n) A w') (fun _ h => h)
  obtain ⟨hsel, hnle, hpw, hown, hget⟩ := walk_facts hB
  obtain ⟨A, hRA, hsz, hdf, hA, hset⟩ := wpB_settles (P := P) (J := J) (ops := l.toArray) (by simpa using hsel) (l.take n) (fun o ho => by simpa using List.mem_of_mem_take ho) hpw hown a h
  have := wpAny_inv (P := P) (Inv := J) (Q := Q) (A := A) hB (fun i o hi ho => (hset o (by
      refine List.mem_of_getElem? (i := i) ?_
      rw [List.getElem?_take_of_lt hi]; simpa using ho)).inv (fun _ h => h) hJ) (by simpa using hRA) n (Array.replicate l.toArray.size false) a w.drew (unl_none _ _ (by simpa using hnle))
    ⟨⟨by simp, fun j oj _ hl => (by rw [getD_replicate_false] at hl; cases hl), fun t _ ht => getD_in (by simpa using ht) (getD_replicate_false _ _)⟩, hdf.symm, hsz.symm, fun t ht => (hA t (fun o ho hd => by
      obtain ⟨i, hi, hio⟩ := hget o ho
      have hlt : i < l.length := (List.getElem?_eq_some_iff.1 hio).1
      exact ht i o hi (by simpa using hio) (by simp [hlt]) hd)).symm⟩ h0
  have hnl : n ≤ l.toArray.size := by simpa using hnle
  rw [show n + (l.toArray.size - n) = l.toArray.size by omega] at this
  exact this

/-- THE RULE, without a block of its own. -/
theorem wp_region_B {id : Nat} {Q : Exit → Act → World → Prop} {a : Act} {w : World} (n : Nat) (J : World → Prop) (hm : P.follows .mixedOrders = true) (hB : orderOk l.toArray n = true)
    (hJ : ∀ w w', J w → Below w.heap.size w w' → J w') (h0 : J w.drew) (h' : ∀ R : Act → Prop, (∀ A, (∀ w', J w' → wpList P l.toArray Q (l.drop n) A w') → R A) → wpB P l.toArray J R (l.take n) a) : (Code.region id l.toArray true).wp P Q a w :=
  wp_region_any hm (wpAny_B n J hB hJ h0 h')

/-- THE RULE, with one operation (number k, slot s) that makes a block at whatever time. -/
theorem wp_region_one {id : Nat} {Q : Exit → Act → World → Prop} {a : Act} {w : World} (n k : Nat) (s : Tmp) (J : World → Prop) (obj : Obj) (mk : Nat → Value) (base : Nat) (hm : P.follows .mixedOrders = true) (hB : orderOk l.toArray n = true) (hF : freshOk l.toArray n k s = true)
    (hJ : ∀ w w', J w → Below w.heap.size w w' → J w') (hbase : ∀ w, J w → base ≤ w.heap.size) (h0 : J w.drew)
    (h' : ∀ R : Act → Prop, (∀ A, (∀ o, l[k]? = some o → ∀ w', J w' → (execOp A.eval o).run P w' = .ok (.value (mk w'.heap.size)) (w'.alloc obj)) → (∀ g w', base ≤ g → J w' → w'.heap[g]? = some obj → wpList P l.toArray Q (l.drop n) (A.put (some s) (mk g)) w') → R A) → wpB P l.toArray J R ((l.take n).eraseIdx k) a) : (Code.region id l.toArray true).wp P Q a w := by
  have h := h' (fun A => (∀ o, l[k]? = some o → ∀ w', J w' → (execOp A.eval o).run P w' = .ok (.value (mk w'.heap.size)) (w'.alloc obj)) ∧ ∀ g w', base ≤ g → J w' → w'.heap[g]? = some obj → wpList P l.toArray Q (l.drop n) (A.put (some s) (mk g)) w') (fun _ h1 h2 => ⟨h1, h2⟩)
  obtain ⟨hsel, hnle, hpw, hown, hget⟩ := walk_facts hB
  obtain ⟨hkn, ⟨ok, hok, hdst, hgd⟩, hlook⟩ := freshOk_spec hF
  have hsub : ((l.take n).eraseIdx k).Sublist (l.take n) := List.eraseIdx_sublist _ _
  obtain ⟨A, hRA, hsz, hdf, hA, hset⟩ := wpB_settles (P := P) (J := J) (ops := l.toArray) (by simpa using hsel) ((l.take n).eraseIdx k) (fun o ho => by simpa using List.mem_of_mem_take (hsub.mem ho)) (hpw.sublist hsub) (fun o ho => hown o (hsub.mem ho)) a h
  refine wp_region_any hm ?_
  have := wpAny_one (P := P) (J := J) (Q := Q) (A := A) (base := base) (obj := obj) (mk := mk) hB hkn hok hdst hgd hlook hJ hbase (fun w' hw' => hRA.1 ok (by simpa using hok) w' hw') (fun i o hi hne ho => hset o (by
      refine List.mem_eraseIdx_iff_getElem?.2 ⟨i, hne, ?_⟩
      rw [List.getElem?_take_of_lt hi]; simpa using ho)) (fun g w' hg hw' hb => by simpa using hRA.2 g w' hg hw' hb) n (Array.replicate l.toArray.size false) a w.drew (unl_none _ _ (by simpa using hnle))
    (getD_in (by simp; omega) (getD_replicate_false _ _))
    ⟨⟨by simp, fun j oj _ hl => (by rw [getD_replicate_false] at hl; cases hl), fun t _ ht => getD_in (by simpa using ht) (getD_replicate_false _ _)⟩, hdf.symm, hsz.symm, fun t ht => (hA t (fun o ho hd => by
      obtain ⟨i, hi, hio⟩ := hget o (hsub.mem ho)
      have hlt : i < l.length := (List.getElem?_eq_some_iff.1 hio).1
      exact ht i o hi (by simpa using hio) (by simp [hlt]) hd)).symm⟩ h0
  have hnl : n ≤ l.toArray.size := by simpa using hnle
  rw [show n + (l.toArray.size - n) = l.toArray.size by omega] at this
  exact this
end

section
variable {R : Act → Prop} {a : Act} {o : Oper} {rest : List Oper}
theorem wpB_nil (h : R a) : wpB P ops J R [] a := h
theorem wpB_val {v : Value} (hw : Region.wanted o (yielded ops a.tmps) = true) (h : ∀ w, J w → (execOp a.eval o).run P w = .ok (.value v) w)
    (hr : wpB P ops J R rest (a.put o.dst v)) : wpB P ops J R (o :: rest) a := by
  unfold wpB
  rw [if_pos hw]
  exact ⟨v, fun w hI => by rw [h w hI]; exact ⟨rfl, Below.refl _ _⟩, hr⟩
theorem wpB_move {dst : Option Tmp} {x : Operand} {ty : TypeId} {pos : String} {after : Array Edge} {gd : Option (Nat × Bool)}
    (hw : Region.wanted ⟨dst, .move x, ty, pos, after, gd⟩ (yielded ops a.tmps) = true)
    (hr : wpB P ops J R rest (a.put dst (a.eval x))) : wpB P ops J R (⟨dst, .move x, ty, pos, after, gd⟩ :: rest) a :=
  wpB_val hw (fun _ _ => rfl) hr
theorem wpB_call {v : Value} (f : FuncId) (args : Array Value) (hw : Region.wanted o (yielded ops a.tmps) = true) (h : ∀ w, (execOp a.eval o).run P w = .ok (.enter f args) w)
    (hc : ∀ w, J w → Calls P f args w (Ret v w))
    (hr : wpB P ops J R rest (a.put o.dst v)) : wpB P ops J R (o :: rest) a := by
  unfold wpB
  rw [if_pos hw]
  exact ⟨v, fun w hI => by rw [h w]; exact hc w hI, hr⟩
theorem wpB_skip (hw : Region.wanted o (yielded ops a.tmps) = false) (hr : wpB P ops J R rest (a.put o.dst undef)) : wpB P ops J R (o :: rest) a := by
  unfold wpB
  rw [hw]
  exact hr
end
end

theorem below_closed (w0 : World) : ∀ w w' : World, Below w0.heap.size w0 w → Below w.heap.size w w' → Below w0.heap.size w0 w' := fun _ _ h h' => below_step h h'
theorem below_base (w0 : World) : ∀ w : World, Below w0.heap.size w0 w → w0.heap.size ≤ w.heap.size := fun _ h => h.size
end
/-! ### RowK -/
section
open Go.ChangeShapes Go.WideShapes Go.ChangeAt Go.RowKit Go.Deep Go.Joins

theorem own : ownKnob Try.prog.godebug = none := by kernel_rfl
theorem laidOut : laidOutB Try.prog = true := by kernel_rfl

section
variable {H : Type} {enc : TypeId × Value → H} {P : Program} {w : World}

theorem ints_of {t e : TypeId} {n : Nat} {v : Value} {y : DataW H × List MemPlace} (ht : P.underlying t = some (.slice e)) (he : P.underlying e = some (.int .i64)) (hc : P.cellsOf e = 1)
    (h : DataW.trod enc P w 0 (fun _ => true) true n t [v] = some y) : ∃ o cap l, v = .slice o (List.length l) cap ∧ Ints w o l := by
  rcases open_ints ht he hc h with ⟨hcs, _⟩ | ⟨a, len, cap, zs, hcs, _, hl, _, hz, _, hcell, _⟩
  · simp only [List.cons.injEq, and_true] at hcs
    exact ⟨none, 0, [], hcs, Ints.nil⟩
  · simp only [List.cons.injEq, and_true] at hcs
    have hzl : zs.length = cap := by simpa using hz
    have hlen : (zs.take len).length = len := by rw [List.length_take]; omega
    refine ⟨some a, cap, zs.take len, by rw [hlen]; exact hcs, fun i hi => ?_⟩
    rw [hlen] at hi
    obtain ⟨b, off, rfl, hc'⟩ := ints_at hcell (by omega)
    refine ⟨b, off, rfl, ?_⟩
    rw [hc' i (by omega), getD_take_lt _ _ _ _ hi]


/-- A parameter that is a slice of integers. -/
theorem intsP_of {r : Reach} {b0 : Nat} {t e : TypeId} {v : Value} {d : DataW H} {p : List MemPlace} (ht : P.underlying t = some (.slice e)) (he : P.underlying e = some (.int .i64)) (hc : P.cellsOf e = 1)
    (hv : Value.okWide P w r b0 t v) (h : DataW.Trod enc P w 0 (fun _ => true) true t v d p) : ∃ o cap l, v = .slice o (List.length l) cap ∧ Ints w o l := by
  obtain ⟨a, len, cap, rfl⟩ := okWide_slice ht hv
  obtain ⟨n, hn⟩ := h
  exact ints_of ht he hc hn

/-- A struct of one-cell fields, however many, by value. -/
theorem agg_of {r : Reach} {b0 : Nat} {t : TypeId} {fs : Array Field} {v : Value} {d : DataW H} {p : List MemPlace} (hs : P.underlying t = some (.struct fs)) (hone : oneCellFields P fs = true) (hC : P.cellsOf t = fs.size)
    (hv : Value.okWide P w r b0 t v) (h : DataW.Trod enc P w 0 (fun _ => true) true t v d p) :
    ∃ (cs : List Value) (n : Nat), v = .agg cs.toArray ∧ cs.length = fs.size ∧ ∀ (j : Nat) (f : Field), fs[j]? = some f → ∃ c y, cs[j]? = some c ∧ DataW.trod enc P w 0 (fun _ => true) true n f.type [c] = some y := by
  obtain ⟨cs, rfl, hsz⟩ := okWide_struct hs hv
  obtain ⟨fuel, hf⟩ := h
  obtain ⟨ys, n, _, _, hlen, hyl, hg⟩ := DataW.trod_struct hs hf
  refine ⟨cs.toList, n, rfl, by rw [Array.length_toList, hsz, hC], fun j f hj => ?_⟩
  obtain ⟨ho, hk⟩ := hone_of hone j f hj
  have hjl : j < fs.size := (Array.getElem?_eq_some_iff.1 hj).1
  have hjc : j < cs.toList.length := by rw [Array.length_toList, hsz, hC]; exact hjl
  have h1 := hg j f hj
  rw [ho, hk] at h1
  have e : (((Value.agg cs).cells.toList).drop j).take 1 = [cs.toList[j]] := by
    show (cs.toList.drop j).take 1 = _
    rw [List.drop_eq_getElem_cons hjc]
    rfl
  have hy : ys[j]? = some (ys[j]'(by omega)) := List.getElem?_eq_getElem (by omega)
  exact ⟨_, _, List.getElem?_eq_getElem hjc, by rw [← e]; exact h1.trans hy⟩

/-- A field that is an int. -/
theorem fld_int {t : TypeId} {n : Nat} {c : Value} {y : DataW H × List MemPlace} {k : IntKind} (ht : P.underlying t = some (.int k)) (h : DataW.trod enc P w 0 (fun _ => true) true n t [c] = some y) : ∃ x : Int, c = .int k x ∧ (Lit.int k x).wf = true := by
  obtain ⟨x, e, _, hw⟩ := DataW.trod_int ht h
  simp at e
  exact ⟨x, e, hw⟩
end
end
/-! ### Mix -/
section
open Go.RowKit

section
variable {P : Program} {ops : Array Oper} {J : World → Prop} {Q : Exit → Act → World → Prop}

/-- One operation of the chain: it comes to a value, or its call returns. -/
def StepC (P : Program) (o : Oper) (V : Act) (K : Act → World → Prop) : Result Next → Prop
  | .ok (.value v) w' => K (V.put o.dst v) w'
  | .ok .skip w' => K (V.put o.dst undef) w'
  | .ok (.enter f args) w' => Calls P f args w' (fun e w'' => ∃ v, e = .returned v ∧ K (V.put o.dst v) w'')
  | _ => False

/-- The chain, by the operations' numbers; J holds ahead of each. -/
def wpC (P : Program) (ops : Array Oper) (J : World → Prop) (Q : Exit → Act → World → Prop) : List Nat → Act → World → Prop
  | [], V, w => Q .normal V w
  | i :: rest, V, w => J w ∧ ∃ o, ops[i]? = some o ∧ o.guard = none ∧ StepC P o V (wpC P ops J Q rest) ((execOp V.eval o).run P w)

/-- An operation beside the chain: at the frame V it comes to what V holds, in every world that meets J, which it leaves as it is. -/
def SettledP (P : Program) (ops : Array Oper) (J : World → Prop) (o : Oper) (V : Act) : Prop :=
  (Region.wanted o (yielded ops V.tmps) = true → ∃ v, (∀ w, J w → (execOp V.eval o).run P w = .ok (.value v) w) ∧ V.put o.dst v = V) ∧
  (Region.wanted o (yielded ops V.tmps) = false → V.put o.dst undef = V)

def consec (ops : Array Oper) : List Nat → Bool
  | [] => true
  | [_] => true
  | a :: b :: r => Region.waitsFor .any ops b a && consec ops (b :: r)

/-- What the table must be; C: the chain's numbers. -/
def mixOk (ops : Array Oper) (C : List Nat) : Bool :=
  Region.noSelect ops && decide C.Nodup && consec ops C && C.all (fun c => decide (c < ops.size)) && !C.isEmpty &&
  (List.range ops.size).all fun i => match ops[i]? with
    | none => true
    | some oi =>
      (oi.after.all fun e => !Region.binds .any e || decide (e.on < i)) &&
      (C.contains i || (List.range ops.size).any fun k => Region.waitsFor .any ops k i) &&
      (List.range ops.size).all fun j => match ops[j]? with
        | none => true
        | some oj => match oj.dst with
          | none => true
          | some d =>
            if C.contains i then C.contains j || (oi.dst != some d && (!(oi.looksAt ops).contains d || Region.waitsFor .any ops i j))
            else (decide (i = j) || oi.dst != some d) && (!(oi.looksAt ops).contains d || (!C.contains j && decide (j < i) && Region.waitsFor .any ops i j))

structure MixFacts (ops : Array Oper) (C : List Nat) : Prop where
  sel : ∀ o ∈ ops.toList, ∀ cs b, o.op ≠ .select cs b
  nodup : C.Nodup
  cons : consec ops C = true
  lt : ∀ c ∈ C, c < ops.size
  ne : C ≠ []
  back : ∀ (i : Nat) (oi : Oper), ops[i]? = some oi → ∀ e ∈ oi.after, Region.binds .any e = true → e.on < i
  waiter : ∀ (i : Nat), i < ops.size → i ∉ C → ∃ k, k < ops.size ∧ Region.waitsFor .any ops k i = true
  chain : ∀ (i : Nat) (oi : Oper) (j : Nat) (oj : Oper) (d : Tmp), ops[i]? = some oi → ops[j]? = some oj → i ∈ C → j ∉ C → oj.dst = some d → oi.dst ≠ some d ∧ (d ∈ oi.looksAt ops → Region.waitsFor .any ops i j = true)
  pure : ∀ (i : Nat) (oi : Oper) (j : Nat) (oj : Oper) (d : Tmp), ops[i]? = some oi → ops[j]? = some oj → i ∉ C → oj.dst = some d → (i ≠ j → oi.dst ≠ some d) ∧ (d ∈ oi.looksAt ops → j ∉ C ∧ j < i ∧ Region.waitsFor .any ops i j = true)

theorem mixOk_spec {C : List Nat} (h : mixOk ops C = true) : MixFacts ops C := by
  unfold mixOk at h
  simp only [Bool.and_eq_true, decide_eq_true_eq, List.all_eq_true, Bool.not_eq_true', List.isEmpty_eq_false_iff] at h
  obtain ⟨⟨⟨⟨⟨h1, h2⟩, h3⟩, h4⟩, h5⟩, h6⟩ := h
  have hi6 : ∀ (i : Nat) (oi : Oper), ops[i]? = some oi → _ := fun i oi hi => by
    have := h6 i (List.mem_range.2 (Array.getElem?_eq_some_iff.1 hi).1)
    simp only [hi, Bool.and_eq_true, Bool.or_eq_true, List.all_eq_true] at this
    exact this
  have hij : ∀ (i : Nat) (oi : Oper) (j : Nat) (oj : Oper) (d : Tmp), ops[i]? = some oi → ops[j]? = some oj → oj.dst = some d → _ := fun i oi j oj d hi hj hd => by
    have := (hi6 i oi hi).2 j (List.mem_range.2 (Array.getElem?_eq_some_iff.1 hj).1)
    simp only [hj, hd] at this
    exact this
  refine ⟨fun o ho cs b => ?_, h2, h3, h4, h5, fun i oi hi e he hbd => ?_, fun i hi hC => ?_, fun i oi j oj d hi hj hC hjC hd => ?_, fun i oi j oj d hi hj hC hd => ?_⟩
  · obtain ⟨k, hk⟩ := List.getElem?_of_mem ho
    exact Region.noSelect_spec h1 k o cs b (by simpa using hk)
  · have := (Array.all_eq_true_iff_forall_mem.1 (hi6 i oi hi).1.1) e he
    simpa [hbd] using this
  · have hoi : ops[i]? = some ops[i] := by simp [hi]
    have := (hi6 i _ hoi).1.2.resolve_left (by simpa using hC)
    rw [List.any_eq_true] at this
    obtain ⟨k, hk, hw⟩ := this
    exact ⟨k, List.mem_range.1 hk, hw⟩
  · have := hij i oi j oj d hi hj hd
    rw [if_pos (by simpa using hC)] at this
    simp only [Bool.or_eq_true, List.contains_eq_mem, decide_eq_true_eq, Bool.and_eq_true, bne_iff_ne, Bool.not_eq_true', decide_eq_false_iff_not] at this
    have h7 := this.resolve_left hjC
    exact ⟨h7.1, fun hl => h7.2.resolve_left (fun hn => hn hl)⟩
  · have := hij i oi j oj d hi hj hd
    rw [if_neg (by simpa using hC)] at this
    simp only [Bool.or_eq_true, List.contains_eq_mem, decide_eq_true_eq, Bool.and_eq_true, bne_iff_ne, Bool.not_eq_true', decide_eq_false_iff_not] at this
    exact ⟨fun hne => this.1.resolve_left hne, fun hl => by
      have h7 := this.2.resolve_left (fun hn => hn hl)
      exact ⟨h7.1.1, h7.1.2, h7.2⟩⟩

/-- How far the region has come: done: the chain's operations that have been run. -/
structure MixSt (P : Program) (ops : Array Oper) (C : List Nat) (J : World → Prop) (done rest : List Nat) (V : Act) (listed : Array Bool) (a : Act) : Prop where
  split : C = done ++ rest
  size : listed.size = ops.size
  dn : ∀ c ∈ done, listed.getD c true = true
  un : ∀ c ∈ rest, listed.getD c true = false
  closed : ∀ (j : Nat) (oj : Oper), ops[j]? = some oj → listed.getD j true = true → ∀ e ∈ oj.after, Region.binds .any e = true → listed.getD e.on false = true
  dfs : a.defers = V.defers
  sz : a.tmps.size = V.tmps.size
  agree : ∀ t, (∀ j oj, j ∉ C → ops[j]? = some oj → listed.getD j true = false → oj.dst ≠ some t) → a.tmps[t]? = V.tmps[t]?
  settled : ∀ i o, i ∉ C → ops[i]? = some o → SettledP P ops J o V

theorem waits_listed {i j : Nat} (hwf : Region.waitsFor .any ops i j = true) {listed : Array Bool} {oi : Oper} (hoi : ops[i]? = some oi) (hall : ∀ e ∈ oi.after, Region.binds .any e = true → listed.getD e.on false = true) : listed.getD j false = true := by
  obtain ⟨o', ho', e, he, hb, hon⟩ := Region.waitsFor_spec hwf
  have : o' = oi := Option.some.inj (ho'.symm.trans hoi)
  subst this
  rw [← hon]
  exact hall e he hb

theorem consec_tail {a : Nat} {l : List Nat} (h : consec ops (a :: l) = true) : consec ops l = true := by
  cases l with
  | nil => rfl
  | cons b r => simp only [consec, Bool.and_eq_true] at h; exact h.2
/-- Of the chain's operations that are left, only the first may be ready. -/
theorem consec_ready : ∀ {rest : List Nat} {listed : Array Bool}, consec ops rest = true → (∀ c ∈ rest, listed.getD c true = false) → ∀ c ∈ rest, (∀ oc, ops[c]? = some oc → ∀ e ∈ oc.after, Region.binds .any e = true → listed.getD e.on false = true) → ops[c]?.isSome = true → rest.head? = some c
  | [], _, _, _, c, hc, _, _ => by cases hc
  | [x], _, _, _, c, hc, _, _ => by simp at hc; simp [hc]
  | x :: y :: r, listed, hcs, hun, c, hc, hdep, hs => by
    simp only [consec, Bool.and_eq_true] at hcs
    rcases List.mem_cons.1 hc with rfl | hc'
    · rfl
    · have hy := consec_ready hcs.2 (fun c hc => hun c (List.mem_cons_of_mem _ hc)) c hc' hdep hs
      simp only [List.head?_cons, Option.some.injEq] at hy
      subst hy
      obtain ⟨oc, hoc⟩ := Option.isSome_iff_exists.1 hs
      have := waits_listed hcs.1 hoc (hdep oc hoc)
      have hx := hun x (List.mem_cons_self ..)
      rw [getD_both hx] at this
      cases this

theorem SettledP.after {C : List Nat} (hM : MixFacts ops C) {i : Nat} {o : Oper} (hi : i ∉ C) (ho : ops[i]? = some o) {c : Nat} {oc : Oper} (hc : c ∈ C) (hoc : ops[c]? = some oc) {V : Act} (h : SettledP P ops J o V) (v : Value) : SettledP P ops J o (V.put oc.dst v) := by
  have hl : ∀ t ∈ o.looksAt ops, (V.put oc.dst v).tmps[t]? = V.tmps[t]? := fun t ht => put_get_ne (fun hd => ((hM.pure i o c oc t ho hoc hi hd).2 ht).1 hc)
  have he := exec_of_agree (ops := ops) (hM.sel o (by have := Array.mem_of_getElem? ho; simpa using this)) hl
  have hwn := wanted_of_agree (ops := ops) hl
  have hput : ∀ u, V.put o.dst u = V → (V.put oc.dst v).put o.dst u = V.put oc.dst v := by
    intro u hu
    refine put_self (a := V.put oc.dst v) (fun d hd => ?_) rfl
    have h1 : (V.put oc.dst v).tmps[d]? = V.tmps[d]? := put_get_ne (fun hd' => (hM.pure i o c oc d ho hoc hi hd').1 (fun e => hi (e ▸ hc)) hd)
    have h2 : (V.put o.dst u).tmps[d]? = V.tmps[d]? := by rw [hu]
    rw [hd] at h2 ⊢
    rw [h1]
    by_cases hlt : d < V.tmps.size
    · have hlt' : d < (V.put oc.dst v).tmps.size := by rw [put_size]; exact hlt
      simp only [Act.put, Array.getElem?_setIfInBounds, if_pos hlt, if_true] at h2
      have e2 : ((V.put oc.dst v).put (some d) u).tmps[d]? = some u := by
        show ((V.put oc.dst v).tmps.setIfInBounds d u)[d]? = _
        simp [hlt']
      rw [e2, h2]
    · have hlt' : ¬ d < (V.put oc.dst v).tmps.size := by rw [put_size]; exact hlt
      have e2 : ((V.put oc.dst v).put (some d) u).tmps[d]? = none := by
        show ((V.put oc.dst v).tmps.setIfInBounds d u)[d]? = _
        simp [hlt']
      rw [e2]
      exact Array.getElem?_eq_none (Nat.le_of_not_lt hlt)
  refine ⟨fun hw => ?_, fun hw => ?_⟩
  · rw [hwn] at hw
    obtain ⟨u, h1, h2⟩ := h.1 hw
    exact ⟨u, fun w hJ => by rw [he]; exact h1 w hJ, hput u h2⟩
  · rw [hwn] at hw
    exact hput undef (h.2 hw)

theorem mix_step {C : List Nat} (hM : MixFacts ops C) : ∀ (m : Nat) (done rest : List Nat) (V : Act) (listed : Array Bool) (a : Act) (w : World), unl ops.size listed = m → MixSt P ops C J done rest V listed a → wpC P ops J Q rest V w → wpAny P .any ops Q m listed a w := by
  intro m
  induction m with
  | zero =>
    intro done rest V listed a w hm hS hC
    have hall : ∀ i, i < ops.size → listed.getD i true = true := by
      intro i hi
      unfold unl at hm
      rw [List.countP_eq_zero] at hm
      have := hm i (List.mem_range.2 hi)
      simpa using this
    have hr : rest = [] := by
      cases rest with
      | nil => rfl
      | cons c r =>
        have h1 := hS.un c (List.mem_cons_self ..)
        rw [hall c (hM.lt c (by rw [hS.split]; simp))] at h1
        cases h1
    subst hr
    have ha : a = V := by
      have h1 : a.tmps = V.tmps := by
        apply Array.ext_getElem?
        intro t
        refine hS.agree t (fun j oj _ hoj hun => ?_)
        rw [hall j (Array.getElem?_eq_some_iff.1 hoj).1] at hun; cases hun
      have h2 := hS.dfs
      cases a; cases V; simp_all
    subst ha
    refine ⟨?_, hC⟩
    rw [List.eq_nil_iff_forall_not_mem]
    intro i hi
    obtain ⟨hun, oi, hoi, _⟩ := mem_ready.1 hi
    rw [hall i (Array.getElem?_eq_some_iff.1 hoi).1] at hun
    cases hun
  | succ m ih =>
    intro done rest V listed a w hm hS hC
    have hex : ∃ i, i < ops.size ∧ listed.getD i true = false := by
      have : 0 < unl ops.size listed := by omega
      unfold unl at this
      rw [List.countP_pos_iff] at this
      obtain ⟨i, hi, h⟩ := this
      exact ⟨i, List.mem_range.1 hi, by simpa using h⟩
    have hsmall : ∀ k i, i ≤ k → i < ops.size → listed.getD i true = false → ∃ j, j ∈ Region.ready .any ops listed := by
      intro k
      induction k with
      | zero =>
        intro i hi hlt hun
        refine ⟨i, mem_ready.2 ⟨hun, ops[i], by simp [hlt], fun e he hbd => ?_⟩⟩
        have := hM.back i ops[i] (by simp [hlt]) e he hbd
        omega
      | succ k ihk =>
        intro i hi hlt hun
        by_cases hex2 : ∃ e ∈ (ops[i]).after, Region.binds .any e = true ∧ listed.getD e.on false = false
        · obtain ⟨e, he, hbd, hf⟩ := hex2
          have hlt2 := hM.back i ops[i] (by simp [hlt]) e he hbd
          exact ihk e.on (by omega) (by omega) (getD_in (by rw [hS.size]; omega) hf)
        · refine ⟨i, mem_ready.2 ⟨hun, ops[i], by simp [hlt], fun e he hbd => ?_⟩⟩
          cases hf : listed.getD e.on false with
          | true => rfl
          | false => exact absurd ⟨e, he, hbd, hf⟩ hex2
    -- an operation beside the chain that has not been run: the chain is not at its end
    have hleft : ∀ d i, ops.size - i ≤ d → i < ops.size → listed.getD i true = false → ∃ c, c ∈ rest := by
      intro d
      induction d with
      | zero => intro i hi hlt _; omega
      | succ d ihd =>
        intro i hi hlt hun
        by_cases hiC : i ∈ C
        · rw [hS.split] at hiC
          rcases List.mem_append.1 hiC with h | h
          · rw [hS.dn i h] at hun; cases hun
          · exact ⟨i, h⟩
        · obtain ⟨k, hk, hwf⟩ := hM.waiter i hlt hiC
          have hok : ops[k]? = some ops[k] := by simp [hk]
          have hik : i < k := by
            obtain ⟨o', ho', e, he, hb, hon⟩ := Region.waitsFor_spec hwf
            have := hM.back k o' ho' e he hb
            omega
          have hku : listed.getD k true = false := by
            cases hf : listed.getD k true with
            | false => rfl
            | true =>
              have := waits_listed hwf hok (hS.closed k _ hok hf)
              rw [getD_both hun] at this
              cases this
          exact ihd k (by omega) hk hku
    obtain ⟨i0, hi0, hun0⟩ := hex
    obtain ⟨j0, hj0⟩ := hsmall i0 i0 (Nat.le_refl _) hi0 hun0
    obtain ⟨c0, hc0⟩ := hleft _ i0 (Nat.le_refl _) hi0 hun0
    refine ⟨fun h => (by rw [h] at hj0; cases hj0), fun i hi => ?_⟩
    obtain ⟨hiun, oi, hoi, hall⟩ := mem_ready.1 hi
    have hilt := (Array.getElem?_eq_some_iff.1 hoi).1
    have hun' : unl ops.size (listed.setIfInBounds i true) = m := by
      have := unl_set hilt hiun
      omega
    have hJw : J w := by
      cases rest with
      | nil => cases hc0
      | cons c r => exact hC.1
    have hag : ∀ t ∈ oi.looksAt ops, a.tmps[t]? = V.tmps[t]? := by
      intro t ht
      refine hS.agree t (fun j oj hj hoj hun hd => ?_)
      have hwf : Region.waitsFor .any ops i j = true := by
        by_cases hiC : i ∈ C
        · exact (hM.chain i oi j oj t hoi hoj hiC hj hd).2 ht
        · exact ((hM.pure i oi j oj t hoi hoj hiC hd).2 ht).2.2
      have h3 := waits_listed hwf hoi hall
      rw [getD_both hun] at h3
      cases h3
    have he := exec_of_agree (ops := ops) (hM.sel oi (by
      have := Array.mem_of_getElem? hoi
      simpa using this)) hag
    have hwn := wanted_of_agree (ops := ops) hag
    have hclosed : ∀ (j : Nat) (oj : Oper), ops[j]? = some oj → (listed.setIfInBounds i true).getD j true = true → ∀ e ∈ oj.after, Region.binds .any e = true → (listed.setIfInBounds i true).getD e.on false = true := by
      intro j oj hoj hl e he' hb
      have hset : ∀ k, listed.getD k false = true → (listed.setIfInBounds i true).getD k false = true := fun k hk => by
        by_cases hki : k = i
        · subst hki
          have : k < listed.size := by rw [hS.size]; exact hilt
          simp [this]
        · rw [getD_set_ne false (Ne.symm hki)]; exact hk
      by_cases hji : j = i
      · subst hji
        have : oj = oi := Option.some.inj (hoj.symm.trans hoi)
        subst this
        exact hset _ (hall e he' hb)
      · rw [getD_set_ne true (Ne.symm hji)] at hl
        exact hset _ (hS.closed j oj hoj hl e he' hb)
    unfold wpOp
    simp only [hoi]
    by_cases hiC : i ∈ C
    · -- the chain's next operation
      have hir : i ∈ rest := by
        rw [hS.split] at hiC
        rcases List.mem_append.1 hiC with h | h
        · rw [hS.dn i h] at hiun; cases hiun
        · exact h
      have hcr : consec ops rest = true := by
        have : ∀ (d r : List Nat), consec ops (d ++ r) = true → consec ops r = true := by
          intro d
          induction d with
          | nil => exact fun r h => h
          | cons x d ihx => exact fun r h => ihx r (consec_tail h)
        exact this done rest (by rw [← hS.split]; exact hM.cons)
      have hhd := consec_ready hcr hS.un i hir (fun oc hoc => by
        have : oc = oi := Option.some.inj (hoc.symm.trans hoi)
        subst this
        exact hall) (by rw [hoi]; rfl)
      cases rest with
      | nil => cases hir
      | cons c r =>
        simp only [List.head?_cons, Option.some.injEq] at hhd
        subst hhd
        obtain ⟨_, o', ho', hgd, hstep⟩ := hC
        have : o' = oi := Option.some.inj (ho'.symm.trans hoi)
        subst this
        have hw : Region.wanted o' (yielded ops a.tmps) = true := by simp [Region.wanted, hgd]
        rw [if_pos hw]
        refine .inl ?_
        have hnext : ∀ v, MixSt P ops C J (done ++ [c]) r (V.put o'.dst v) (listed.setIfInBounds c true) (a.put o'.dst v) := by
          intro v
          have hcn : c ∉ r := by
            have := hM.nodup
            rw [hS.split] at this
            have := (List.nodup_append.1 this).2.1
            exact (List.nodup_cons.1 this).1
          refine ⟨by rw [hS.split]; simp, by simpa using hS.size, ?_, ?_, hclosed, by rw [put_defers', put_defers']; exact hS.dfs, by rw [put_size, put_size]; exact hS.sz, ?_, fun i' o hi' ho => (hS.settled i' o hi' ho).after hM hi' ho hiC hoi v⟩
          · intro k hk
            by_cases hkc : k = c
            · subst hkc
              have : k < listed.size := by rw [hS.size]; exact hilt
              simp [this]
            · rw [getD_set_ne true (Ne.symm hkc)]
              rcases List.mem_append.1 hk with h | h
              · exact hS.dn k h
              · simp at h; exact absurd h hkc
          · intro k hk
            have hkc : k ≠ c := fun e => hcn (e ▸ hk)
            rw [getD_set_ne true (Ne.symm hkc)]
            exact hS.un k (List.mem_cons_of_mem _ hk)
          · intro t ht
            by_cases hd : o'.dst = some t
            · rw [hd]
              by_cases hlt : t < a.tmps.size
              · have hlt' : t < V.tmps.size := by rw [← hS.sz]; exact hlt
                simp [Act.put, hlt, hlt']
              · have hlt' : ¬ t < V.tmps.size := by rw [← hS.sz]; exact hlt
                simp [Act.put, hlt, hlt']
            · rw [put_get_ne hd, put_get_ne hd]
              refine hS.agree t (fun j oj hj hoj hun => ?_)
              exact ht j oj hj hoj (by rw [getD_set_ne true (fun e : c = j => hj (by rw [← e]; exact hiC))]; exact hun)
        unfold Oper.wp
        rw [he]
        generalize (execOp V.eval o').run P w = r' at hstep
        cases r' with
        | halt x w' => exact hstep.elim
        | ok nx w' =>
          cases nx <;> simp only [StepC] at hstep <;> simp only [Oper.upon]
          case value u => exact ih _ _ _ _ _ _ hun' (hnext u) hstep
          case skip => exact ih _ _ _ _ _ _ hun' (hnext undef) hstep
          case enter f args =>
            refine Calls.mono hstep (fun e w'' hh => ?_)
            obtain ⟨v, rfl, hk⟩ := hh
            exact ih _ _ _ _ _ _ hun' (hnext v) hk
    · -- beside the chain
      have hU' : ∀ v, V.put oi.dst v = V → MixSt P ops C J done rest V (listed.setIfInBounds i true) (a.put oi.dst v) := by
        intro v hv
        refine ⟨hS.split, by simpa using hS.size, ?_, ?_, hclosed, by rw [put_defers']; exact hS.dfs, by rw [put_size]; exact hS.sz, ?_, hS.settled⟩
        · intro k hk
          have : k ≠ i := fun e => hiC (by rw [hS.split, ← e]; exact List.mem_append_left _ hk)
          rw [getD_set_ne true (Ne.symm this)]
          exact hS.dn k hk
        · intro k hk
          have : k ≠ i := fun e => hiC (by rw [hS.split, ← e]; exact List.mem_append_right _ hk)
          rw [getD_set_ne true (Ne.symm this)]
          exact hS.un k hk
        · intro t ht
          by_cases hd : oi.dst = some t
          · rw [← hv, hd]
            by_cases hlt : t < a.tmps.size
            · have hlt' : t < V.tmps.size := by rw [← hS.sz]; exact hlt
              simp [Act.put, hlt, hlt']
            · have hlt' : ¬ t < V.tmps.size := by rw [← hS.sz]; exact hlt
              simp [Act.put, hlt, hlt']
          · rw [put_get_ne hd]
            refine hS.agree t (fun j oj hj hoj hun hdj => ?_)
            by_cases hji : j = i
            · subst hji
              have : oj = oi := Option.some.inj (hoj.symm.trans hoi)
              subst this
              exact hd hdj
            · exact ht j oj hj hoj (by rw [getD_set_ne true (Ne.symm hji)]; exact hun) hdj
      have hSt := hS.settled i oi hiC hoi
      by_cases hw : Region.wanted oi (yielded ops V.tmps) = true
      · obtain ⟨v, hy, hv⟩ := hSt.1 hw
        rw [hwn, if_pos hw]
        refine .inl ?_
        unfold Oper.wp
        rw [he, hy w hJw]
        exact ih _ _ _ _ _ _ hun' (hU' v hv) hC
      · have hw' : Region.wanted oi (yielded ops V.tmps) = false := by simpa using hw
        rw [hwn, if_neg hw]
        exact ih _ _ _ _ _ _ hun' (hU' _ (hSt.2 hw')) hC

/-- The operations beside the chain, in the text's order. -/
def wpM (P : Program) (ops : Array Oper) (J : World → Prop) (R : Act → Prop) : List Oper → Act → Prop
  | [], a => R a
  | o :: rest, a =>
    if Region.wanted o (yielded ops a.tmps) then ∃ v, (∀ w, J w → (execOp a.eval o).run P w = .ok (.value v) w) ∧ wpM P ops J R rest (a.put o.dst v)
    else wpM P ops J R rest (a.put o.dst undef)

theorem wpM_settles {R : Act → Prop} (hsel : ∀ o ∈ ops.toList, ∀ cs b, o.op ≠ .select cs b) :
    ∀ (l : List Oper), (∀ o ∈ l, o ∈ ops.toList) →
      (l.Pairwise fun o o' => ∀ d, o'.dst = some d → o.dst ≠ some d ∧ d ∉ o.looksAt ops) → (∀ o ∈ l, ∀ d, o.dst = some d → d ∉ o.looksAt ops) →
      ∀ a, wpM P ops J R l a → ∃ A, R A ∧ A.tmps.size = a.tmps.size ∧ A.defers = a.defers ∧
        (∀ t, (∀ o ∈ l, o.dst ≠ some t) → A.tmps[t]? = a.tmps[t]?) ∧ ∀ o ∈ l, SettledP P ops J o A := by
  intro l
  induction l with
  | nil => intro _ _ _ a h; exact ⟨a, h, rfl, rfl, fun _ _ => rfl, fun o ho => by cases ho⟩
  | cons o rest ih =>
    intro hmem hpw hown a h
    rw [List.pairwise_cons] at hpw
    have hlook : ∀ {A : Act} {v : Value}, (∀ t, (∀ o' ∈ rest, o'.dst ≠ some t) → A.tmps[t]? = (a.put o.dst v).tmps[t]?) → ∀ t ∈ o.looksAt ops, a.tmps[t]? = A.tmps[t]? := by
      intro A v hA t ht
      have h1 : ∀ o' ∈ rest, o'.dst ≠ some t := fun o' ho' hd => (hpw.1 o' ho' t hd).2 ht
      rw [hA t h1, put_get_ne]
      intro hd
      exact hown o (List.mem_cons_self ..) t hd ht
    have hself : ∀ {A : Act} {v : Value}, A.tmps.size = (a.put o.dst v).tmps.size → (∀ t, (∀ o' ∈ rest, o'.dst ≠ some t) → A.tmps[t]? = (a.put o.dst v).tmps[t]?) → A.put o.dst v = A := by
      intro A v hsz hA
      refine put_self (a := a) (fun d hd => ?_) (by rw [hsz, put_size])
      exact hA d (fun o' ho' hd' => (hpw.1 o' ho' d hd').1 hd)
    unfold wpM at h
    split at h
    · rename_i hw
      obtain ⟨v, hy, hr⟩ := h
      obtain ⟨A, hRA, hsz, hdf, hA, hset⟩ := ih (fun o' ho' => hmem o' (List.mem_cons_of_mem _ ho')) hpw.2 (fun o' ho' => hown o' (List.mem_cons_of_mem _ ho')) _ hr
      have hl := hlook hA
      have he := exec_of_agree (ops := ops) (hsel o (hmem o (List.mem_cons_self ..))) hl
      have hwn := wanted_of_agree (ops := ops) hl
      refine ⟨A, hRA, by rw [hsz, put_size], by rw [hdf, put_defers'], fun t ht => ?_, fun o' ho' => ?_⟩
      · rw [hA t (fun o' ho' => ht o' (List.mem_cons_of_mem _ ho')), put_get_ne (ht o (List.mem_cons_self ..))]
      · rcases List.mem_cons.1 ho' with rfl | ho'
        · refine ⟨fun _ => ⟨v, ?_, hself hsz hA⟩, fun hf => ?_⟩
          · intro w hJ
            rw [← he]
            exact hy w hJ
          · rw [← hwn, hw] at hf; cases hf
        · exact hset o' ho'
    · rename_i hw
      obtain ⟨A, hRA, hsz, hdf, hA, hset⟩ := ih (fun o' ho' => hmem o' (List.mem_cons_of_mem _ ho')) hpw.2 (fun o' ho' => hown o' (List.mem_cons_of_mem _ ho')) _ h
      have hl := hlook hA
      have hwn := wanted_of_agree (ops := ops) hl
      refine ⟨A, hRA, by rw [hsz, put_size], by rw [hdf, put_defers'], fun t ht => ?_, fun o' ho' => ?_⟩
      · rw [hA t (fun o' ho' => ht o' (List.mem_cons_of_mem _ ho')), put_get_ne (ht o (List.mem_cons_self ..))]
      · rcases List.mem_cons.1 ho' with rfl | ho'
        · refine ⟨fun hf => ?_, fun _ => hself hsz hA⟩
          rw [← hwn] at hf; exact absurd hf hw
        · exact hset o' ho'

/-- The operations that are not of the chain, from number k on. -/
def beside (C : List Nat) : List Oper → Nat → List Oper
  | [], _ => []
  | o :: r, k => if C.contains k then beside C r (k + 1) else o :: beside C r (k + 1)
theorem beside_mem {C : List Nat} : ∀ {l : List Oper} {k : Nat} {o : Oper}, o ∈ beside C l k ↔ ∃ i, l[i]? = some o ∧ k + i ∉ C
  | [], k, o => by simp [beside]
  | x :: r, k, o => by
    have ih := beside_mem (C := C) (l := r) (k := k + 1) (o := o)
    rw [beside]
    constructor
    · intro h
      split at h
      · obtain ⟨i, h1, h2⟩ := ih.1 h
        exact ⟨i + 1, by simpa using h1, by rw [show k + (i + 1) = k + 1 + i by omega]; exact h2⟩
      · rename_i hk
        rcases List.mem_cons.1 h with rfl | h
        · exact ⟨0, rfl, by simpa using hk⟩
        · obtain ⟨i, h1, h2⟩ := ih.1 h
          exact ⟨i + 1, by simpa using h1, by rw [show k + (i + 1) = k + 1 + i by omega]; exact h2⟩
    · rintro ⟨i, h1, h2⟩
      cases i with
      | zero =>
        simp at h1
        subst h1
        rw [if_neg (by simpa using h2)]
        exact List.mem_cons_self ..
      | succ i =>
        have h3 : o ∈ beside C r (k + 1) := ih.2 ⟨i, by simpa using h1, by rw [show k + 1 + i = k + (i + 1) by omega]; exact h2⟩
        split
        · exact h3
        · exact List.mem_cons_of_mem _ h3
theorem beside_pair {C : List Nat} {S : Nat → Oper → Nat → Oper → Prop} : ∀ {l : List Oper} {k : Nat}, (∀ i j oi oj, l[i]? = some oi → l[j]? = some oj → i < j → k + i ∉ C → k + j ∉ C → S (k + i) oi (k + j) oj) → (beside C l k).Pairwise (fun o o' => ∃ i j, S i o j o')
  | [], k, _ => List.Pairwise.nil
  | x :: r, k, h => by
    have ih := beside_pair (C := C) (S := S) (l := r) (k := k + 1) (fun i j oi oj hi hj hij h1 h2 => by
      have := h (i + 1) (j + 1) oi oj (by simpa using hi) (by simpa using hj) (by omega) (by rw [show k + (i + 1) = k + 1 + i by omega]; exact h1) (by rw [show k + (j + 1) = k + 1 + j by omega]; exact h2)
      rw [show k + 1 + i = k + (i + 1) by omega, show k + 1 + j = k + (j + 1) by omega]
      exact this)
    rw [beside]
    split
    · exact ih
    · rename_i hk
      refine List.pairwise_cons.2 ⟨fun o' ho' => ?_, ih⟩
      obtain ⟨j, hj, hjC⟩ := beside_mem.1 ho'
      exact ⟨k + 0, k + (j + 1), h 0 (j + 1) x o' rfl (by simpa using hj) (by omega) (by simpa using hk) (by rw [show k + (j + 1) = k + 1 + j by omega]; exact hjC)⟩

/-- THE RULE. -/
theorem wp_region_mix {l : List Oper} {id : Nat} {a : Act} {w : World} (C : List Nat) (J : World → Prop) (hm : P.follows .mixedOrders = true) (hB : mixOk l.toArray C = true)
    (h' : ∀ R : Act → Prop, (∀ A, wpC P l.toArray J Q C A w.drew → R A) → wpM P l.toArray J R (beside C l 0) a) : (Code.region id l.toArray true).wp P Q a w := by
  have h := h' (fun A => wpC P l.toArray J Q C A w.drew) (fun _ h => h)
  have hM := mixOk_spec hB
  have hget : ∀ o ∈ beside C l 0, ∃ i, i ∉ C ∧ l[i]? = some o := fun o ho => by
    obtain ⟨i, h1, h2⟩ := beside_mem.1 ho
    exact ⟨i, by simpa using h2, h1⟩
  obtain ⟨A, hRA, hsz, hdf, hA, hset⟩ := wpM_settles (P := P) (J := J) (ops := l.toArray) hM.sel (beside C l 0) (fun o ho => by
      obtain ⟨i, _, h1⟩ := hget o ho
      have := List.mem_of_getElem? h1
      simpa using this)
    (by
      refine (beside_pair (C := C) (S := fun i oi j oj => ∀ d, oj.dst = some d → oi.dst ≠ some d ∧ d ∉ oi.looksAt l.toArray) (fun i j oi oj hi hj hij h1 h2 d hd => ?_)).imp (fun ⟨_, _, h⟩ => h)
      have := hM.pure (0 + i) oi (0 + j) oj d (by simpa using hi) (by simpa using hj) h1 hd
      exact ⟨this.1 (by omega), fun hl => by have := (this.2 hl).2.1; omega⟩)
    (fun o ho d hd hl => by
      obtain ⟨i, hiC, hio⟩ := hget o ho
      have := ((hM.pure i o i o d (by simpa using hio) (by simpa using hio) hiC hd).2 hl).2.1
      omega) a h
  refine wp_region_any hm ?_
  have hun : unl l.toArray.size (Array.replicate l.toArray.size false) = l.toArray.size := unl_none _ _ (Nat.le_refl _)
  refine mix_step hM l.toArray.size [] C A (Array.replicate l.toArray.size false) a w.drew hun ⟨rfl, by simp, fun c hc => (by cases hc), fun c hc => getD_in (by simpa using hM.lt c hc) (getD_replicate_false _ _), fun j oj _ hl => ?_, hdf.symm, hsz.symm, fun t ht => (hA t (fun o ho hd => ?_)).symm, fun i o hi ho => hset o (beside_mem.2 ⟨i, by simpa using ho, by simpa using hi⟩)⟩ hRA
  · rename_i hoj
    have : j < l.toArray.size := (Array.getElem?_eq_some_iff.1 hoj).1
    have h2 : j < l.length := by simpa using this
    simp [h2] at hl
  · obtain ⟨i, hi, hio⟩ := hget o ho
    have hlt : i < l.length := (List.getElem?_eq_some_iff.1 hio).1
    exact ht i o hi (by simpa using hio) (by simp [hlt]) hd
end

/-- The operations that a mask marks. -/
def marked : List Bool → List Oper → List Oper
  | true :: m, o :: r => o :: marked m r
  | false :: m, _ :: r => marked m r
  | _, _ => []
def maskOf (C : List Nat) : Nat → Nat → List Bool
  | 0, _ => []
  | n + 1, k => (!C.contains k) :: maskOf C n (k + 1)
theorem marked_eq (C : List Nat) : ∀ (l : List Oper) (k : Nat), marked (maskOf C l.length k) l = beside C l k
  | [], _ => rfl
  | o :: r, k => by
    have ih := marked_eq C r (k + 1)
    rw [List.length_cons, maskOf, beside]
    cases h : C.contains k
    · simp only [Bool.not_false, marked, ih]
      rfl
    · simp only [Bool.not_true, marked, ih]
      rfl
/-- THE RULE, the chain's numbers by a mask too. -/
theorem wp_region_mask {P : Program} {Q : Exit → Act → World → Prop} {l : List Oper} {id : Nat} {a : Act} {w : World} (C : List Nat) (mask : List Bool) (J : World → Prop) (hm : P.follows .mixedOrders = true) (hB : (mixOk l.toArray C && mask == maskOf C l.length 0) = true)
    (h' : ∀ R : Act → Prop, (∀ A, wpC P l.toArray J Q C A w.drew → R A) → wpM P l.toArray J R (marked mask l) a) : (Code.region id l.toArray true).wp P Q a w := by
  simp only [Bool.and_eq_true, beq_iff_eq] at hB
  refine wp_region_mix C J hm hB.1 (fun R hR => ?_)
  have := h' R hR
  rw [hB.2, marked_eq] at this
  exact this

section
variable {P : Program} {ops : Array Oper} {J : World → Prop} {Q : Exit → Act → World → Prop} {R : Act → Prop} {a V : Act} {o : Oper} {rest : List Oper} {w w' : World}
theorem wpM_nil (h : R a) : wpM P ops J R [] a := h
theorem wpM_val {v : Value} (hw : Region.wanted o (yielded ops a.tmps) = true) (h : ∀ w, J w → (execOp a.eval o).run P w = .ok (.value v) w)
    (hr : wpM P ops J R rest (a.put o.dst v)) : wpM P ops J R (o :: rest) a := by
  unfold wpM
  rw [if_pos hw]
  exact ⟨v, h, hr⟩
theorem wpM_move {dst : Option Tmp} {x : Operand} {ty : TypeId} {pos : String} {after : Array Edge} {gd : Option (Nat × Bool)}
    (hw : Region.wanted ⟨dst, .move x, ty, pos, after, gd⟩ (yielded ops a.tmps) = true)
    (hr : wpM P ops J R rest (a.put dst (a.eval x))) : wpM P ops J R (⟨dst, .move x, ty, pos, after, gd⟩ :: rest) a :=
  wpM_val hw (fun _ _ => rfl) hr
theorem wpM_skip (hw : Region.wanted o (yielded ops a.tmps) = false) (hr : wpM P ops J R rest (a.put o.dst undef)) : wpM P ops J R (o :: rest) a := by
  unfold wpM
  rw [hw]
  exact hr
theorem wpC_nil (h : Q .normal V w) : wpC P ops J Q [] V w := h
/-- A step of the chain that comes to a value. -/
theorem wpC_run {i : Nat} {C : List Nat} {v : Value} (ho : ops[i]? = some o) (hg : o.guard = none) (hJ : J w) (hr : (execOp V.eval o).run P w = .ok (.value v) w') (h : wpC P ops J Q C (V.put o.dst v) w') : wpC P ops J Q (i :: C) V w :=
  ⟨hJ, o, ho, hg, by rw [hr]; exact h⟩
/-- A step of the chain that yields nothing (a store). -/
theorem wpC_skip {i : Nat} {C : List Nat} (ho : ops[i]? = some o) (hg : o.guard = none) (hJ : J w) (hr : (execOp V.eval o).run P w = .ok .skip w') (h : wpC P ops J Q C (V.put o.dst undef) w') : wpC P ops J Q (i :: C) V w :=
  ⟨hJ, o, ho, hg, by rw [hr]; exact h⟩
/-- A step of the chain that is a call. -/
theorem wpC_call {i : Nat} {C : List Nat} {f : FuncId} {args : Array Value} (ho : ops[i]? = some o) (hg : o.guard = none) (hJ : J w) (hr : (execOp V.eval o).run P w = .ok (.enter f args) w') (h : Calls P f args w' (fun e w'' => ∃ v, e = .returned v ∧ wpC P ops J Q C (V.put o.dst v) w'')) : wpC P ops J Q (i :: C) V w :=
  ⟨hJ, o, ho, hg, by rw [hr]; exact h⟩
/-- A step of the chain that is an append. -/
theorem wpC_append {i : Nat} {C : List Nat} {v : Value} {t : TypeId} (s x : Operand) (ho : ops[i]? = some o) (hg : o.guard = none) (hop : o.op = .call { callee := .builtin .append, args := #[s, x], argTypes := #[t, t] }) (hJ : J w)
    (hr : (Builtin.append_ #[t, t] o.type #[V.eval s, V.eval x]).run P w = .ok v w') (h : wpC P ops J Q C (V.put o.dst v) w') : wpC P ops J Q (i :: C) V w := by
  refine wpC_run ho hg hJ ?_ h
  unfold execOp
  simp only [hop, resolve, invoke, builtin, Sem.run_bind, Sem.run_pure, Result.andThen_ok, List.map_toArray, List.map_cons, List.map_nil, hr]
end
end
/-! ### MixF -/
section
open Go.RowKit

section
variable {P : Program} {ops : Array Oper} {J : World → Prop} {Q : Exit → Act → World → Prop}

/-- No operation of rest must come before c. -/
def freeC (ops : Array Oper) (rest : List Nat) (c : Nat) : Bool := rest.all fun d => !Region.waitsFor .any ops c d
/-- The acting operations, by their numbers, in any order; J holds ahead of each. -/
def wpF (P : Program) (ops : Array Oper) (J : World → Prop) (Q : Exit → Act → World → Prop) : Nat → List Nat → Act → World → Prop
  | 0, _, V, w => Q .normal V w
  | n + 1, rest, V, w => J w ∧ ∀ c ∈ rest, freeC ops rest c = true → ∃ o, ops[c]? = some o ∧ o.guard = none ∧ StepC P o V (wpF P ops J Q n (rest.erase c)) ((execOp V.eval o).run P w)

/-- What the table must be; C: the chain's numbers. -/
def mixOkF (ops : Array Oper) (C : List Nat) : Bool :=
  Region.noSelect ops && decide C.Nodup && C.all (fun c => decide (c < ops.size)) && !C.isEmpty &&
  (List.range ops.size).all fun i => match ops[i]? with
    | none => true
    | some oi =>
      (oi.after.all fun e => !Region.binds .any e || decide (e.on < i)) &&
      (C.contains i || (List.range ops.size).any fun k => Region.waitsFor .any ops k i) &&
      (List.range ops.size).all fun j => match ops[j]? with
        | none => true
        | some oj => match oj.dst with
          | none => true
          | some d =>
            if C.contains i then C.contains j || (oi.dst != some d && (!(oi.looksAt ops).contains d || Region.waitsFor .any ops i j))
            else (decide (i = j) || oi.dst != some d) && (!(oi.looksAt ops).contains d || (!C.contains j && decide (j < i) && Region.waitsFor .any ops i j))

structure MixFactsF (ops : Array Oper) (C : List Nat) : Prop where
  sel : ∀ o ∈ ops.toList, ∀ cs b, o.op ≠ .select cs b
  nodup : C.Nodup
  lt : ∀ c ∈ C, c < ops.size
  ne : C ≠ []
  back : ∀ (i : Nat) (oi : Oper), ops[i]? = some oi → ∀ e ∈ oi.after, Region.binds .any e = true → e.on < i
  waiter : ∀ (i : Nat), i < ops.size → i ∉ C → ∃ k, k < ops.size ∧ Region.waitsFor .any ops k i = true
  chain : ∀ (i : Nat) (oi : Oper) (j : Nat) (oj : Oper) (d : Tmp), ops[i]? = some oi → ops[j]? = some oj → i ∈ C → j ∉ C → oj.dst = some d → oi.dst ≠ some d ∧ (d ∈ oi.looksAt ops → Region.waitsFor .any ops i j = true)
  pure : ∀ (i : Nat) (oi : Oper) (j : Nat) (oj : Oper) (d : Tmp), ops[i]? = some oi → ops[j]? = some oj → i ∉ C → oj.dst = some d → (i ≠ j → oi.dst ≠ some d) ∧ (d ∈ oi.looksAt ops → j ∉ C ∧ j < i ∧ Region.waitsFor .any ops i j = true)

theorem mixOkF_spec {C : List Nat} (h : mixOkF ops C = true) : MixFactsF ops C := by
  unfold mixOkF at h
  simp only [Bool.and_eq_true, decide_eq_true_eq, List.all_eq_true, Bool.not_eq_true', List.isEmpty_eq_false_iff] at h
  obtain ⟨⟨⟨⟨h1, h2⟩, h4⟩, h5⟩, h6⟩ := h
  have hi6 : ∀ (i : Nat) (oi : Oper), ops[i]? = some oi → _ := fun i oi hi => by
    have := h6 i (List.mem_range.2 (Array.getElem?_eq_some_iff.1 hi).1)
    simp only [hi, Bool.and_eq_true, Bool.or_eq_true, List.all_eq_true] at this
    exact this
  have hij : ∀ (i : Nat) (oi : Oper) (j : Nat) (oj : Oper) (d : Tmp), ops[i]? = some oi → ops[j]? = some oj → oj.dst = some d → _ := fun i oi j oj d hi hj hd => by
    have := (hi6 i oi hi).2 j (List.mem_range.2 (Array.getElem?_eq_some_iff.1 hj).1)
    simp only [hj, hd] at this
    exact this
  refine ⟨fun o ho cs b => ?_, h2, h4, h5, fun i oi hi e he hbd => ?_, fun i hi hC => ?_, fun i oi j oj d hi hj hC hjC hd => ?_, fun i oi j oj d hi hj hC hd => ?_⟩
  · obtain ⟨k, hk⟩ := List.getElem?_of_mem ho
    exact Region.noSelect_spec h1 k o cs b (by simpa using hk)
  · have := (Array.all_eq_true_iff_forall_mem.1 (hi6 i oi hi).1.1) e he
    simpa [hbd] using this
  · have hoi : ops[i]? = some ops[i] := by simp [hi]
    have := (hi6 i _ hoi).1.2.resolve_left (by simpa using hC)
    rw [List.any_eq_true] at this
    obtain ⟨k, hk, hw⟩ := this
    exact ⟨k, List.mem_range.1 hk, hw⟩
  · have := hij i oi j oj d hi hj hd
    rw [if_pos (by simpa using hC)] at this
    simp only [Bool.or_eq_true, List.contains_eq_mem, decide_eq_true_eq, Bool.and_eq_true, bne_iff_ne, Bool.not_eq_true', decide_eq_false_iff_not] at this
    have h7 := this.resolve_left hjC
    exact ⟨h7.1, fun hl => h7.2.resolve_left (fun hn => hn hl)⟩
  · have := hij i oi j oj d hi hj hd
    rw [if_neg (by simpa using hC)] at this
    simp only [Bool.or_eq_true, List.contains_eq_mem, decide_eq_true_eq, Bool.and_eq_true, bne_iff_ne, Bool.not_eq_true', decide_eq_false_iff_not] at this
    exact ⟨fun hne => this.1.resolve_left hne, fun hl => by
      have h7 := this.2.resolve_left (fun hn => hn hl)
      exact ⟨h7.1.1, h7.1.2, h7.2⟩⟩

/-- How far the region has come: rest: the acting operations that have not been run. -/
structure MixStF (P : Program) (ops : Array Oper) (C : List Nat) (J : World → Prop) (rest : List Nat) (V : Act) (listed : Array Bool) (a : Act) : Prop where
  sub : ∀ c ∈ rest, c ∈ C
  nd : rest.Nodup
  size : listed.size = ops.size
  dn : ∀ c ∈ C, c ∉ rest → listed.getD c true = true
  un : ∀ c ∈ rest, listed.getD c true = false
  closed : ∀ (j : Nat) (oj : Oper), ops[j]? = some oj → listed.getD j true = true → ∀ e ∈ oj.after, Region.binds .any e = true → listed.getD e.on false = true
  dfs : a.defers = V.defers
  sz : a.tmps.size = V.tmps.size
  agree : ∀ t, (∀ j oj, j ∉ C → ops[j]? = some oj → listed.getD j true = false → oj.dst ≠ some t) → a.tmps[t]? = V.tmps[t]?
  settled : ∀ i o, i ∉ C → ops[i]? = some o → SettledP P ops J o V

theorem SettledP.afterF {C : List Nat} (hM : MixFactsF ops C) {i : Nat} {o : Oper} (hi : i ∉ C) (ho : ops[i]? = some o) {c : Nat} {oc : Oper} (hc : c ∈ C) (hoc : ops[c]? = some oc) {V : Act} (h : SettledP P ops J o V) (v : Value) : SettledP P ops J o (V.put oc.dst v) := by
  have hl : ∀ t ∈ o.looksAt ops, (V.put oc.dst v).tmps[t]? = V.tmps[t]? := fun t ht => put_get_ne (fun hd => ((hM.pure i o c oc t ho hoc hi hd).2 ht).1 hc)
  have he := exec_of_agree (ops := ops) (hM.sel o (by have := Array.mem_of_getElem? ho; simpa using this)) hl
  have hwn := wanted_of_agree (ops := ops) hl
  have hput : ∀ u, V.put o.dst u = V → (V.put oc.dst v).put o.dst u = V.put oc.dst v := by
    intro u hu
    refine put_self (a := V.put oc.dst v) (fun d hd => ?_) rfl
    have h1 : (V.put oc.dst v).tmps[d]? = V.tmps[d]? := put_get_ne (fun hd' => (hM.pure i o c oc d ho hoc hi hd').1 (fun e => hi (e ▸ hc)) hd)
    have h2 : (V.put o.dst u).tmps[d]? = V.tmps[d]? := by rw [hu]
    rw [hd] at h2 ⊢
    rw [h1]
    by_cases hlt : d < V.tmps.size
    · have hlt' : d < (V.put oc.dst v).tmps.size := by rw [put_size]; exact hlt
      simp only [Act.put, Array.getElem?_setIfInBounds, if_pos hlt, if_true] at h2
      have e2 : ((V.put oc.dst v).put (some d) u).tmps[d]? = some u := by
        show ((V.put oc.dst v).tmps.setIfInBounds d u)[d]? = _
        simp [hlt']
      rw [e2, h2]
    · have hlt' : ¬ d < (V.put oc.dst v).tmps.size := by rw [put_size]; exact hlt
      have e2 : ((V.put oc.dst v).put (some d) u).tmps[d]? = none := by
        show ((V.put oc.dst v).tmps.setIfInBounds d u)[d]? = _
        simp [hlt']
      rw [e2]
      exact Array.getElem?_eq_none (Nat.le_of_not_lt hlt)
  refine ⟨fun hw => ?_, fun hw => ?_⟩
  · rw [hwn] at hw
    obtain ⟨u, h1, h2⟩ := h.1 hw
    exact ⟨u, fun w hJ => by rw [he]; exact h1 w hJ, hput u h2⟩
  · rw [hwn] at hw
    exact hput undef (h.2 hw)

theorem mixF_step {C : List Nat} (hM : MixFactsF ops C) : ∀ (m : Nat) (rest : List Nat) (V : Act) (listed : Array Bool) (a : Act) (w : World), unl ops.size listed = m → MixStF P ops C J rest V listed a → wpF P ops J Q rest.length rest V w → wpAny P .any ops Q m listed a w := by
  intro m
  induction m with
  | zero =>
    intro rest V listed a w hm hS hC
    have hall : ∀ i, i < ops.size → listed.getD i true = true := by
      intro i hi
      unfold unl at hm
      rw [List.countP_eq_zero] at hm
      have := hm i (List.mem_range.2 hi)
      simpa using this
    have hr : rest = [] := by
      cases rest with
      | nil => rfl
      | cons c r =>
        have h1 := hS.un c (List.mem_cons_self ..)
        rw [hall c (hM.lt c (hS.sub c (List.mem_cons_self ..)))] at h1
        cases h1
    subst hr
    have ha : a = V := by
      have h1 : a.tmps = V.tmps := by
        apply Array.ext_getElem?
        intro t
        refine hS.agree t (fun j oj _ hoj hun => ?_)
        rw [hall j (Array.getElem?_eq_some_iff.1 hoj).1] at hun; cases hun
      have h2 := hS.dfs
      cases a; cases V; simp_all
    subst ha
    refine ⟨?_, hC⟩
    rw [List.eq_nil_iff_forall_not_mem]
    intro i hi
    obtain ⟨hun, oi, hoi, _⟩ := mem_ready.1 hi
    rw [hall i (Array.getElem?_eq_some_iff.1 hoi).1] at hun
    cases hun
  | succ m ih =>
    intro rest V listed a w hm hS hC
    have hex : ∃ i, i < ops.size ∧ listed.getD i true = false := by
      have : 0 < unl ops.size listed := by omega
      unfold unl at this
      rw [List.countP_pos_iff] at this
      obtain ⟨i, hi, h⟩ := this
      exact ⟨i, List.mem_range.1 hi, by simpa using h⟩
    have hsmall : ∀ k i, i ≤ k → i < ops.size → listed.getD i true = false → ∃ j, j ∈ Region.ready .any ops listed := by
      intro k
      induction k with
      | zero =>
        intro i hi hlt hun
        refine ⟨i, mem_ready.2 ⟨hun, ops[i], by simp [hlt], fun e he hbd => ?_⟩⟩
        have := hM.back i ops[i] (by simp [hlt]) e he hbd
        omega
      | succ k ihk =>
        intro i hi hlt hun
        by_cases hex2 : ∃ e ∈ (ops[i]).after, Region.binds .any e = true ∧ listed.getD e.on false = false
        · obtain ⟨e, he, hbd, hf⟩ := hex2
          have hlt2 := hM.back i ops[i] (by simp [hlt]) e he hbd
          exact ihk e.on (by omega) (by omega) (getD_in (by rw [hS.size]; omega) hf)
        · refine ⟨i, mem_ready.2 ⟨hun, ops[i], by simp [hlt], fun e he hbd => ?_⟩⟩
          cases hf : listed.getD e.on false with
          | true => rfl
          | false => exact absurd ⟨e, he, hbd, hf⟩ hex2
    -- an operation beside the chain that has not been run: the chain is not at its end
    have hleft : ∀ d i, ops.size - i ≤ d → i < ops.size → listed.getD i true = false → ∃ c, c ∈ rest := by
      intro d
      induction d with
      | zero => intro i hi hlt _; omega
      | succ d ihd =>
        intro i hi hlt hun
        by_cases hiC : i ∈ C
        · by_cases h : i ∈ rest
          · exact ⟨i, h⟩
          · rw [hS.dn i hiC h] at hun; cases hun
        · obtain ⟨k, hk, hwf⟩ := hM.waiter i hlt hiC
          have hok : ops[k]? = some ops[k] := by simp [hk]
          have hik : i < k := by
            obtain ⟨o', ho', e, he, hb, hon⟩ := Region.waitsFor_spec hwf
            have := hM.back k o' ho' e he hb
            omega
          have hku : listed.getD k true = false := by
            cases hf : listed.getD k true with
            | false => rfl
            | true =>
              have := waits_listed hwf hok (hS.closed k _ hok hf)
              rw [getD_both hun] at this
              cases this
          exact ihd k (by omega) hk hku
    obtain ⟨i0, hi0, hun0⟩ := hex
    obtain ⟨j0, hj0⟩ := hsmall i0 i0 (Nat.le_refl _) hi0 hun0
    obtain ⟨c0, hc0⟩ := hleft _ i0 (Nat.le_refl _) hi0 hun0
    refine ⟨fun h => (by rw [h] at hj0; cases hj0), fun i hi => ?_⟩
    obtain ⟨hiun, oi, hoi, hall⟩ := mem_ready.1 hi
    have hilt := (Array.getElem?_eq_some_iff.1 hoi).1
    have hun' : unl ops.size (listed.setIfInBounds i true) = m := by
      have := unl_set hilt hiun
      omega
    have hJw : J w := by
      cases rest with
      | nil => cases hc0
      | cons c r => exact hC.1
    have hag : ∀ t ∈ oi.looksAt ops, a.tmps[t]? = V.tmps[t]? := by
      intro t ht
      refine hS.agree t (fun j oj hj hoj hun hd => ?_)
      have hwf : Region.waitsFor .any ops i j = true := by
        by_cases hiC : i ∈ C
        · exact (hM.chain i oi j oj t hoi hoj hiC hj hd).2 ht
        · exact ((hM.pure i oi j oj t hoi hoj hiC hd).2 ht).2.2
      have h3 := waits_listed hwf hoi hall
      rw [getD_both hun] at h3
      cases h3
    have he := exec_of_agree (ops := ops) (hM.sel oi (by
      have := Array.mem_of_getElem? hoi
      simpa using this)) hag
    have hwn := wanted_of_agree (ops := ops) hag
    have hclosed : ∀ (j : Nat) (oj : Oper), ops[j]? = some oj → (listed.setIfInBounds i true).getD j true = true → ∀ e ∈ oj.after, Region.binds .any e = true → (listed.setIfInBounds i true).getD e.on false = true := by
      intro j oj hoj hl e he' hb
      have hset : ∀ k, listed.getD k false = true → (listed.setIfInBounds i true).getD k false = true := fun k hk => by
        by_cases hki : k = i
        · subst hki
          have : k < listed.size := by rw [hS.size]; exact hilt
          simp [this]
        · rw [getD_set_ne false (Ne.symm hki)]; exact hk
      by_cases hji : j = i
      · subst hji
        have : oj = oi := Option.some.inj (hoj.symm.trans hoi)
        subst this
        exact hset _ (hall e he' hb)
      · rw [getD_set_ne true (Ne.symm hji)] at hl
        exact hset _ (hS.closed j oj hoj hl e he' hb)
    unfold wpOp
    simp only [hoi]
    by_cases hiC : i ∈ C
    · -- the chain's next operation
      have hir : i ∈ rest := by
        by_cases h : i ∈ rest
        · exact h
        · rw [hS.dn i hiC h] at hiun; cases hiun
      have hfree : freeC ops rest i = true := by
        unfold freeC
        rw [List.all_eq_true]
        intro d hd
        cases hwf : Region.waitsFor .any ops i d with
        | false => rfl
        | true =>
          have := waits_listed hwf hoi hall
          rw [getD_both (hS.un d hd)] at this
          cases this
      obtain ⟨k, hk⟩ : ∃ k, rest.length = k + 1 := ⟨rest.length - 1, by have := List.length_pos_of_mem hir; omega⟩
      rw [hk] at hC
      obtain ⟨o', ho', hgd, hstep⟩ := hC.2 i hir hfree
      have hkl : k = (rest.erase i).length := by rw [List.length_erase_of_mem hir, hk]; rfl
      rw [hkl] at hstep
      have : o' = oi := Option.some.inj (ho'.symm.trans hoi)
      subst this
      · skip
        have hw : Region.wanted o' (yielded ops a.tmps) = true := by simp [Region.wanted, hgd]
        rw [if_pos hw]
        refine .inl ?_
        have hnext : ∀ v, MixStF P ops C J (rest.erase i) (V.put o'.dst v) (listed.setIfInBounds i true) (a.put o'.dst v) := by
          intro v
          refine ⟨fun c hc => hS.sub c (List.mem_of_mem_erase hc), hS.nd.erase i, by simpa using hS.size, ?_, ?_, hclosed, by rw [put_defers', put_defers']; exact hS.dfs, by rw [put_size, put_size]; exact hS.sz, ?_, fun i' o hi' ho => (hS.settled i' o hi' ho).afterF hM hi' ho hiC hoi v⟩
          · intro k hk hkr
            by_cases hkc : k = i
            · subst hkc
              have : k < listed.size := by rw [hS.size]; exact hilt
              simp [this]
            · rw [getD_set_ne true (Ne.symm hkc)]
              exact hS.dn k hk (fun h => hkr ((List.mem_erase_of_ne hkc).2 h))
          · intro k hk
            have hkc : k ≠ i := fun e => (hS.nd.mem_erase_iff.1 hk).1 e
            rw [getD_set_ne true (Ne.symm hkc)]
            exact hS.un k (List.mem_of_mem_erase hk)
          · intro t ht
            by_cases hd : o'.dst = some t
            · rw [hd]
              by_cases hlt : t < a.tmps.size
              · have hlt' : t < V.tmps.size := by rw [← hS.sz]; exact hlt
                simp [Act.put, hlt, hlt']
              · have hlt' : ¬ t < V.tmps.size := by rw [← hS.sz]; exact hlt
                simp [Act.put, hlt, hlt']
            · rw [put_get_ne hd, put_get_ne hd]
              refine hS.agree t (fun j oj hj hoj hun => ?_)
              exact ht j oj hj hoj (by rw [getD_set_ne true (fun e : i = j => hj (by rw [← e]; exact hiC))]; exact hun)
        unfold Oper.wp
        rw [he]
        generalize (execOp V.eval o').run P w = r' at hstep
        cases r' with
        | halt x w' => exact hstep.elim
        | ok nx w' =>
          cases nx <;> simp only [StepC] at hstep <;> simp only [Oper.upon]
          case value u => exact ih _ _ _ _ _ hun' (hnext u) hstep
          case skip => exact ih _ _ _ _ _ hun' (hnext undef) hstep
          case enter f args =>
            refine Calls.mono hstep (fun e w'' hh => ?_)
            obtain ⟨v, rfl, hk⟩ := hh
            exact ih _ _ _ _ _ hun' (hnext v) hk
    · -- beside the chain
      have hU' : ∀ v, V.put oi.dst v = V → MixStF P ops C J rest V (listed.setIfInBounds i true) (a.put oi.dst v) := by
        intro v hv
        refine ⟨hS.sub, hS.nd, by simpa using hS.size, ?_, ?_, hclosed, by rw [put_defers']; exact hS.dfs, by rw [put_size]; exact hS.sz, ?_, hS.settled⟩
        · intro k hk hkr
          have : k ≠ i := fun e => hiC (by rw [← e]; exact hk)
          rw [getD_set_ne true (Ne.symm this)]
          exact hS.dn k hk hkr
        · intro k hk
          have : k ≠ i := fun e => hiC (by rw [← e]; exact hS.sub k hk)
          rw [getD_set_ne true (Ne.symm this)]
          exact hS.un k hk
        · intro t ht
          by_cases hd : oi.dst = some t
          · rw [← hv, hd]
            by_cases hlt : t < a.tmps.size
            · have hlt' : t < V.tmps.size := by rw [← hS.sz]; exact hlt
              simp [Act.put, hlt, hlt']
            · have hlt' : ¬ t < V.tmps.size := by rw [← hS.sz]; exact hlt
              simp [Act.put, hlt, hlt']
          · rw [put_get_ne hd]
            refine hS.agree t (fun j oj hj hoj hun hdj => ?_)
            by_cases hji : j = i
            · subst hji
              have : oj = oi := Option.some.inj (hoj.symm.trans hoi)
              subst this
              exact hd hdj
            · exact ht j oj hj hoj (by rw [getD_set_ne true (Ne.symm hji)]; exact hun) hdj
      have hSt := hS.settled i oi hiC hoi
      by_cases hw : Region.wanted oi (yielded ops V.tmps) = true
      · obtain ⟨v, hy, hv⟩ := hSt.1 hw
        rw [hwn, if_pos hw]
        refine .inl ?_
        unfold Oper.wp
        rw [he, hy w hJw]
        exact ih _ _ _ _ _ hun' (hU' v hv) hC
      · have hw' : Region.wanted oi (yielded ops V.tmps) = false := by simpa using hw
        rw [hwn, if_neg hw]
        exact ih _ _ _ _ _ hun' (hU' _ (hSt.2 hw')) hC

/-- THE RULE. -/
theorem wp_region_mixF {l : List Oper} {id : Nat} {a : Act} {w : World} (C : List Nat) (J : World → Prop) (hm : P.follows .mixedOrders = true) (hB : mixOkF l.toArray C = true)
    (h' : ∀ R : Act → Prop, (∀ A, wpF P l.toArray J Q C.length C A w.drew → R A) → wpM P l.toArray J R (beside C l 0) a) : (Code.region id l.toArray true).wp P Q a w := by
  have h := h' (fun A => wpF P l.toArray J Q C.length C A w.drew) (fun _ h => h)
  have hM := mixOkF_spec hB
  have hget : ∀ o ∈ beside C l 0, ∃ i, i ∉ C ∧ l[i]? = some o := fun o ho => by
    obtain ⟨i, h1, h2⟩ := beside_mem.1 ho
    exact ⟨i, by simpa using h2, h1⟩
  obtain ⟨A, hRA, hsz, hdf, hA, hset⟩ := wpM_settles (P := P) (J := J) (ops := l.toArray) hM.sel (beside C l 0) (fun o ho => by
      obtain ⟨i, _, h1⟩ := hget o ho
      have := List.mem_of_getElem? h1
      simpa using this)
    (by
      refine (beside_pair (C := C) (S := fun i oi j oj => ∀ d, oj.dst = some d → oi.dst ≠ some d ∧ d ∉ oi.looksAt l.toArray) (fun i j oi oj hi hj hij h1 h2 d hd => ?_)).imp (fun ⟨_, _, h⟩ => h)
      have := hM.pure (0 + i) oi (0 + j) oj d (by simpa using hi) (by simpa using hj) h1 hd
      exact ⟨this.1 (by omega), fun hl => by have := (this.2 hl).2.1; omega⟩)
    (fun o ho d hd hl => by
      obtain ⟨i, hiC, hio⟩ := hget o ho
      have := ((hM.pure i o i o d (by simpa using hio) (by simpa using hio) hiC hd).2 hl).2.1
      omega) a h
  refine wp_region_any hm ?_
  have hun : unl l.toArray.size (Array.replicate l.toArray.size false) = l.toArray.size := unl_none _ _ (Nat.le_refl _)
  refine mixF_step hM l.toArray.size C A (Array.replicate l.toArray.size false) a w.drew hun ⟨fun c hc => hc, hM.nodup, by simp, fun c hc hn => absurd hc hn, fun c hc => getD_in (by simpa using hM.lt c hc) (getD_replicate_false _ _), fun j oj _ hl => ?_, hdf.symm, hsz.symm, fun t ht => (hA t (fun o ho hd => ?_)).symm, fun i o hi ho => hset o (beside_mem.2 ⟨i, by simpa using ho, by simpa using hi⟩)⟩ hRA
  · rename_i hoj
    have : j < l.toArray.size := (Array.getElem?_eq_some_iff.1 hoj).1
    have h2 : j < l.length := by simpa using this
    simp [h2] at hl
  · obtain ⟨i, hi, hio⟩ := hget o ho
    have hlt : i < l.length := (List.getElem?_eq_some_iff.1 hio).1
    exact ht i o hi (by simpa using hio) (by simp [hlt]) hd
end

/-- THE RULE, the chain's numbers by a mask too. -/
theorem wp_region_maskF {P : Program} {Q : Exit → Act → World → Prop} {l : List Oper} {id : Nat} {a : Act} {w : World} (C : List Nat) (mask : List Bool) (J : World → Prop) (hm : P.follows .mixedOrders = true) (hB : (mixOkF l.toArray C && mask == maskOf C l.length 0) = true)
    (h' : ∀ R : Act → Prop, (∀ A, wpF P l.toArray J Q C.length C A w.drew → R A) → wpM P l.toArray J R (marked mask l) a) : (Code.region id l.toArray true).wp P Q a w := by
  simp only [Bool.and_eq_true, beq_iff_eq] at hB
  refine wp_region_mixF C J hm hB.1 (fun R hR => ?_)
  have := h' R hR
  rw [hB.2, marked_eq] at this
  exact this
end
/-! ### MixG -/
section
open Go.RowKit

section
variable {P : Program} {ops : Array Oper} {J : World → Prop} {Q : Exit → Act → World → Prop}

/-- What the table must be; C: the chain's numbers. -/
def mixOkG (ops : Array Oper) (C : List Nat) : Bool :=
  Region.noSelect ops && decide C.Nodup && C.all (fun c => decide (c < ops.size)) && !C.isEmpty &&
  (List.range ops.size).all fun i => match ops[i]? with
    | none => true
    | some oi =>
      (oi.after.all fun e => !Region.binds .any e || decide (e.on < i)) &&
      (C.contains i || (List.range ops.size).any fun k => Region.waitsFor .any ops k i) &&
      (List.range ops.size).all fun j => match ops[j]? with
        | none => true
        | some oj => match oj.dst with
          | none => true
          | some d =>
            if C.contains i then C.contains j || (oi.dst != some d && (!(oi.looksAt ops).contains d || Region.waitsFor .any ops i j))
            else (decide (i = j) || oi.dst != some d) && (!(oi.looksAt ops).contains d || (!C.contains j && decide (j < i) && Region.waitsFor .any ops i j) || (C.contains j && Region.waitsFor .any ops j i))

structure MixFactsG (ops : Array Oper) (C : List Nat) : Prop where
  sel : ∀ o ∈ ops.toList, ∀ cs b, o.op ≠ .select cs b
  nodup : C.Nodup
  lt : ∀ c ∈ C, c < ops.size
  ne : C ≠ []
  back : ∀ (i : Nat) (oi : Oper), ops[i]? = some oi → ∀ e ∈ oi.after, Region.binds .any e = true → e.on < i
  waiter : ∀ (i : Nat), i < ops.size → i ∉ C → ∃ k, k < ops.size ∧ Region.waitsFor .any ops k i = true
  chain : ∀ (i : Nat) (oi : Oper) (j : Nat) (oj : Oper) (d : Tmp), ops[i]? = some oi → ops[j]? = some oj → i ∈ C → j ∉ C → oj.dst = some d → oi.dst ≠ some d ∧ (d ∈ oi.looksAt ops → Region.waitsFor .any ops i j = true)
  pure : ∀ (i : Nat) (oi : Oper) (j : Nat) (oj : Oper) (d : Tmp), ops[i]? = some oi → ops[j]? = some oj → i ∉ C → oj.dst = some d → (i ≠ j → oi.dst ≠ some d) ∧ (d ∈ oi.looksAt ops → (j ∉ C ∧ j < i ∧ Region.waitsFor .any ops i j = true) ∨ (j ∈ C ∧ Region.waitsFor .any ops j i = true))

theorem mixOkG_spec {C : List Nat} (h : mixOkG ops C = true) : MixFactsG ops C := by
  unfold mixOkG at h
  simp only [Bool.and_eq_true, decide_eq_true_eq, List.all_eq_true, Bool.not_eq_true', List.isEmpty_eq_false_iff] at h
  obtain ⟨⟨⟨⟨h1, h2⟩, h4⟩, h5⟩, h6⟩ := h
  have hi6 : ∀ (i : Nat) (oi : Oper), ops[i]? = some oi → _ := fun i oi hi => by
    have := h6 i (List.mem_range.2 (Array.getElem?_eq_some_iff.1 hi).1)
    simp only [hi, Bool.and_eq_true, Bool.or_eq_true, List.all_eq_true] at this
    exact this
  have hij : ∀ (i : Nat) (oi : Oper) (j : Nat) (oj : Oper) (d : Tmp), ops[i]? = some oi → ops[j]? = some oj → oj.dst = some d → _ := fun i oi j oj d hi hj hd => by
    have := (hi6 i oi hi).2 j (List.mem_range.2 (Array.getElem?_eq_some_iff.1 hj).1)
    simp only [hj, hd] at this
    exact this
  refine ⟨fun o ho cs b => ?_, h2, h4, h5, fun i oi hi e he hbd => ?_, fun i hi hC => ?_, fun i oi j oj d hi hj hC hjC hd => ?_, fun i oi j oj d hi hj hC hd => ?_⟩
  · obtain ⟨k, hk⟩ := List.getElem?_of_mem ho
    exact Region.noSelect_spec h1 k o cs b (by simpa using hk)
  · have := (Array.all_eq_true_iff_forall_mem.1 (hi6 i oi hi).1.1) e he
    simpa [hbd] using this
  · have hoi : ops[i]? = some ops[i] := by simp [hi]
    have := (hi6 i _ hoi).1.2.resolve_left (by simpa using hC)
    rw [List.any_eq_true] at this
    obtain ⟨k, hk, hw⟩ := this
    exact ⟨k, List.mem_range.1 hk, hw⟩
  · have := hij i oi j oj d hi hj hd
    rw [if_pos (by simpa using hC)] at this
    simp only [Bool.or_eq_true, List.contains_eq_mem, decide_eq_true_eq, Bool.and_eq_true, bne_iff_ne, Bool.not_eq_true', decide_eq_false_iff_not] at this
    have h7 := this.resolve_left hjC
    exact ⟨h7.1, fun hl => h7.2.resolve_left (fun hn => hn hl)⟩
  · have := hij i oi j oj d hi hj hd
    rw [if_neg (by simpa using hC)] at this
    simp only [Bool.or_eq_true, List.contains_eq_mem, decide_eq_true_eq, Bool.and_eq_true, bne_iff_ne, Bool.not_eq_true', decide_eq_false_iff_not] at this
    refine ⟨fun hne => this.1.resolve_left hne, fun hl => ?_⟩
    rcases this.2 with h7 | h7
    · have h8 := h7.resolve_left (fun hn => hn hl)
      exact .inl ⟨h8.1.1, h8.1.2, h8.2⟩
    · exact .inr h7

/-- How far the region has come: rest: the acting operations that have not been run. -/
structure MixStG (P : Program) (ops : Array Oper) (C : List Nat) (J : World → Prop) (rest : List Nat) (V : Act) (listed : Array Bool) (a : Act) : Prop where
  sub : ∀ c ∈ rest, c ∈ C
  nd : rest.Nodup
  size : listed.size = ops.size
  dn : ∀ c ∈ C, c ∉ rest → listed.getD c true = true
  un : ∀ c ∈ rest, listed.getD c true = false
  closed : ∀ (j : Nat) (oj : Oper), ops[j]? = some oj → listed.getD j true = true → ∀ e ∈ oj.after, Region.binds .any e = true → listed.getD e.on false = true
  dfs : a.defers = V.defers
  sz : a.tmps.size = V.tmps.size
  agree : ∀ t, (∀ j oj, j ∉ C → ops[j]? = some oj → listed.getD j true = false → oj.dst ≠ some t) → a.tmps[t]? = V.tmps[t]?
  settled : ∀ i o, i ∉ C → ops[i]? = some o → listed.getD i true = false → SettledP P ops J o V

theorem SettledP.afterG {C : List Nat} (hM : MixFactsG ops C) {i : Nat} {o : Oper} (hi : i ∉ C) (ho : ops[i]? = some o) {c : Nat} {oc : Oper} (hc : c ∈ C) (hoc : ops[c]? = some oc) (hnw : ∀ t, oc.dst = some t → t ∉ o.looksAt ops) {V : Act} (h : SettledP P ops J o V) (v : Value) : SettledP P ops J o (V.put oc.dst v) := by
  have hl : ∀ t ∈ o.looksAt ops, (V.put oc.dst v).tmps[t]? = V.tmps[t]? := fun t ht => put_get_ne (fun hd => hnw t hd ht)
  have he := exec_of_agree (ops := ops) (hM.sel o (by have := Array.mem_of_getElem? ho; simpa using this)) hl
  have hwn := wanted_of_agree (ops := ops) hl
  have hput : ∀ u, V.put o.dst u = V → (V.put oc.dst v).put o.dst u = V.put oc.dst v := by
    intro u hu
    refine put_self (a := V.put oc.dst v) (fun d hd => ?_) rfl
    have h1 : (V.put oc.dst v).tmps[d]? = V.tmps[d]? := put_get_ne (fun hd' => (hM.pure i o c oc d ho hoc hi hd').1 (fun e => hi (e ▸ hc)) hd)
    have h2 : (V.put o.dst u).tmps[d]? = V.tmps[d]? := by rw [hu]
    rw [hd] at h2 ⊢
    rw [h1]
    by_cases hlt : d < V.tmps.size
    · have hlt' : d < (V.put oc.dst v).tmps.size := by rw [put_size]; exact hlt
      simp only [Act.put, Array.getElem?_setIfInBounds, if_pos hlt, if_true] at h2
      have e2 : ((V.put oc.dst v).put (some d) u).tmps[d]? = some u := by
        show ((V.put oc.dst v).tmps.setIfInBounds d u)[d]? = _
        simp [hlt']
      rw [e2, h2]
    · have hlt' : ¬ d < (V.put oc.dst v).tmps.size := by rw [put_size]; exact hlt
      have e2 : ((V.put oc.dst v).put (some d) u).tmps[d]? = none := by
        show ((V.put oc.dst v).tmps.setIfInBounds d u)[d]? = _
        simp [hlt']
      rw [e2]
      exact Array.getElem?_eq_none (Nat.le_of_not_lt hlt)
  refine ⟨fun hw => ?_, fun hw => ?_⟩
  · rw [hwn] at hw
    obtain ⟨u, h1, h2⟩ := h.1 hw
    exact ⟨u, fun w hJ => by rw [he]; exact h1 w hJ, hput u h2⟩
  · rw [hwn] at hw
    exact hput undef (h.2 hw)

theorem mixG_step {C : List Nat} (hM : MixFactsG ops C) : ∀ (m : Nat) (rest : List Nat) (V : Act) (listed : Array Bool) (a : Act) (w : World), unl ops.size listed = m → MixStG P ops C J rest V listed a → wpF P ops J Q rest.length rest V w → wpAny P .any ops Q m listed a w := by
  intro m
  induction m with
  | zero =>
    intro rest V listed a w hm hS hC
    have hall : ∀ i, i < ops.size → listed.getD i true = true := by
      intro i hi
      unfold unl at hm
      rw [List.countP_eq_zero] at hm
      have := hm i (List.mem_range.2 hi)
      simpa using this
    have hr : rest = [] := by
      cases rest with
      | nil => rfl
      | cons c r =>
        have h1 := hS.un c (List.mem_cons_self ..)
        rw [hall c (hM.lt c (hS.sub c (List.mem_cons_self ..)))] at h1
        cases h1
    subst hr
    have ha : a = V := by
      have h1 : a.tmps = V.tmps := by
        apply Array.ext_getElem?
        intro t
        refine hS.agree t (fun j oj _ hoj hun => ?_)
        rw [hall j (Array.getElem?_eq_some_iff.1 hoj).1] at hun; cases hun
      have h2 := hS.dfs
      cases a; cases V; simp_all
    subst ha
    refine ⟨?_, hC⟩
    rw [List.eq_nil_iff_forall_not_mem]
    intro i hi
    obtain ⟨hun, oi, hoi, _⟩ := mem_ready.1 hi
    rw [hall i (Array.getElem?_eq_some_iff.1 hoi).1] at hun
    cases hun
  | succ m ih =>
    intro rest V listed a w hm hS hC
    have hex : ∃ i, i < ops.size ∧ listed.getD i true = false := by
      have : 0 < unl ops.size listed := by omega
      unfold unl at this
      rw [List.countP_pos_iff] at this
      obtain ⟨i, hi, h⟩ := this
      exact ⟨i, List.mem_range.1 hi, by simpa using h⟩
    have hsmall : ∀ k i, i ≤ k → i < ops.size → listed.getD i true = false → ∃ j, j ∈ Region.ready .any ops listed := by
      intro k
      induction k with
      | zero =>
        intro i hi hlt hun
        refine ⟨i, mem_ready.2 ⟨hun, ops[i], by simp [hlt], fun e he hbd => ?_⟩⟩
        have := hM.back i ops[i] (by simp [hlt]) e he hbd
        omega
      | succ k ihk =>
        intro i hi hlt hun
        by_cases hex2 : ∃ e ∈ (ops[i]).after, Region.binds .any e = true ∧ listed.getD e.on false = false
        · obtain ⟨e, he, hbd, hf⟩ := hex2
          have hlt2 := hM.back i ops[i] (by simp [hlt]) e he hbd
          exact ihk e.on (by omega) (by omega) (getD_in (by rw [hS.size]; omega) hf)
        · refine ⟨i, mem_ready.2 ⟨hun, ops[i], by simp [hlt], fun e he hbd => ?_⟩⟩
          cases hf : listed.getD e.on false with
          | true => rfl
          | false => exact absurd ⟨e, he, hbd, hf⟩ hex2
    -- an operation beside the chain that has not been run: the chain is not at its end
    have hleft : ∀ d i, ops.size - i ≤ d → i < ops.size → listed.getD i true = false → ∃ c, c ∈ rest := by
      intro d
      induction d with
      | zero => intro i hi hlt _; omega
      | succ d ihd =>
        intro i hi hlt hun
        by_cases hiC : i ∈ C
        · by_cases h : i ∈ rest
          · exact ⟨i, h⟩
          · rw [hS.dn i hiC h] at hun; cases hun
        · obtain ⟨k, hk, hwf⟩ := hM.waiter i hlt hiC
          have hok : ops[k]? = some ops[k] := by simp [hk]
          have hik : i < k := by
            obtain ⟨o', ho', e, he, hb, hon⟩ := Region.waitsFor_spec hwf
            have := hM.back k o' ho' e he hb
            omega
          have hku : listed.getD k true = false := by
            cases hf : listed.getD k true with
            | false => rfl
            | true =>
              have := waits_listed hwf hok (hS.closed k _ hok hf)
              rw [getD_both hun] at this
              cases this
          exact ihd k (by omega) hk hku
    obtain ⟨i0, hi0, hun0⟩ := hex
    obtain ⟨j0, hj0⟩ := hsmall i0 i0 (Nat.le_refl _) hi0 hun0
    obtain ⟨c0, hc0⟩ := hleft _ i0 (Nat.le_refl _) hi0 hun0
    refine ⟨fun h => (by rw [h] at hj0; cases hj0), fun i hi => ?_⟩
    obtain ⟨hiun, oi, hoi, hall⟩ := mem_ready.1 hi
    have hilt := (Array.getElem?_eq_some_iff.1 hoi).1
    have hun' : unl ops.size (listed.setIfInBounds i true) = m := by
      have := unl_set hilt hiun
      omega
    have hJw : J w := by
      cases rest with
      | nil => cases hc0
      | cons c r => exact hC.1
    have hag : ∀ t ∈ oi.looksAt ops, a.tmps[t]? = V.tmps[t]? := by
      intro t ht
      refine hS.agree t (fun j oj hj hoj hun hd => ?_)
      have hwf : Region.waitsFor .any ops i j = true := by
        by_cases hiC : i ∈ C
        · exact (hM.chain i oi j oj t hoi hoj hiC hj hd).2 ht
        · rcases (hM.pure i oi j oj t hoi hoj hiC hd).2 ht with h | h
          · exact h.2.2
          · exact absurd h.1 hj
      have h3 := waits_listed hwf hoi hall
      rw [getD_both hun] at h3
      cases h3
    have he := exec_of_agree (ops := ops) (hM.sel oi (by
      have := Array.mem_of_getElem? hoi
      simpa using this)) hag
    have hwn := wanted_of_agree (ops := ops) hag
    have hclosed : ∀ (j : Nat) (oj : Oper), ops[j]? = some oj → (listed.setIfInBounds i true).getD j true = true → ∀ e ∈ oj.after, Region.binds .any e = true → (listed.setIfInBounds i true).getD e.on false = true := by
      intro j oj hoj hl e he' hb
      have hset : ∀ k, listed.getD k false = true → (listed.setIfInBounds i true).getD k false = true := fun k hk => by
        by_cases hki : k = i
        · subst hki
          have : k < listed.size := by rw [hS.size]; exact hilt
          simp [this]
        · rw [getD_set_ne false (Ne.symm hki)]; exact hk
      by_cases hji : j = i
      · subst hji
        have : oj = oi := Option.some.inj (hoj.symm.trans hoi)
        subst this
        exact hset _ (hall e he' hb)
      · rw [getD_set_ne true (Ne.symm hji)] at hl
        exact hset _ (hS.closed j oj hoj hl e he' hb)
    unfold wpOp
    simp only [hoi]
    by_cases hiC : i ∈ C
    · -- the chain's next operation
      have hir : i ∈ rest := by
        by_cases h : i ∈ rest
        · exact h
        · rw [hS.dn i hiC h] at hiun; cases hiun
      have hfree : freeC ops rest i = true := by
        unfold freeC
        rw [List.all_eq_true]
        intro d hd
        cases hwf : Region.waitsFor .any ops i d with
        | false => rfl
        | true =>
          have := waits_listed hwf hoi hall
          rw [getD_both (hS.un d hd)] at this
          cases this
      obtain ⟨k, hk⟩ : ∃ k, rest.length = k + 1 := ⟨rest.length - 1, by have := List.length_pos_of_mem hir; omega⟩
      rw [hk] at hC
      obtain ⟨o', ho', hgd, hstep⟩ := hC.2 i hir hfree
      have hkl : k = (rest.erase i).length := by rw [List.length_erase_of_mem hir, hk]; rfl
      rw [hkl] at hstep
      have : o' = oi := Option.some.inj (ho'.symm.trans hoi)
      subst this
      · skip
        have hw : Region.wanted o' (yielded ops a.tmps) = true := by simp [Region.wanted, hgd]
        rw [if_pos hw]
        refine .inl ?_
        have hnext : ∀ v, MixStG P ops C J (rest.erase i) (V.put o'.dst v) (listed.setIfInBounds i true) (a.put o'.dst v) := by
          intro v
          refine ⟨fun c hc => hS.sub c (List.mem_of_mem_erase hc), hS.nd.erase i, by simpa using hS.size, ?_, ?_, hclosed, by rw [put_defers', put_defers']; exact hS.dfs, by rw [put_size, put_size]; exact hS.sz, ?_, fun i' o hi' ho hun2 => ?_⟩
          · intro k hk hkr
            by_cases hkc : k = i
            · subst hkc
              have : k < listed.size := by rw [hS.size]; exact hilt
              simp [this]
            · rw [getD_set_ne true (Ne.symm hkc)]
              exact hS.dn k hk (fun h => hkr ((List.mem_erase_of_ne hkc).2 h))
          · intro k hk
            have hkc : k ≠ i := fun e => (hS.nd.mem_erase_iff.1 hk).1 e
            rw [getD_set_ne true (Ne.symm hkc)]
            exact hS.un k (List.mem_of_mem_erase hk)
          · intro t ht
            by_cases hd : o'.dst = some t
            · rw [hd]
              by_cases hlt : t < a.tmps.size
              · have hlt' : t < V.tmps.size := by rw [← hS.sz]; exact hlt
                simp [Act.put, hlt, hlt']
              · have hlt' : ¬ t < V.tmps.size := by rw [← hS.sz]; exact hlt
                simp [Act.put, hlt, hlt']
            · rw [put_get_ne hd, put_get_ne hd]
              refine hS.agree t (fun j oj hj hoj hun => ?_)
              exact ht j oj hj hoj (by rw [getD_set_ne true (fun e : i = j => hj (by rw [← e]; exact hiC))]; exact hun)
          · have hne : i ≠ i' := fun e => hi' (e ▸ hiC)
            rw [getD_set_ne true hne] at hun2
            refine (hS.settled i' o hi' ho hun2).afterG hM hi' ho hiC hoi (fun t hd hl => ?_) v
            rcases (hM.pure i' o i o' t ho hoi hi' hd).2 hl with h | h
            · exact h.1 hiC
            · have := waits_listed h.2 hoi hall
              rw [getD_both hun2] at this
              cases this
        unfold Oper.wp
        rw [he]
        generalize (execOp V.eval o').run P w = r' at hstep
        cases r' with
        | halt x w' => exact hstep.elim
        | ok nx w' =>
          cases nx <;> simp only [StepC] at hstep <;> simp only [Oper.upon]
          case value u => exact ih _ _ _ _ _ hun' (hnext u) hstep
          case skip => exact ih _ _ _ _ _ hun' (hnext undef) hstep
          case enter f args =>
            refine Calls.mono hstep (fun e w'' hh => ?_)
            obtain ⟨v, rfl, hk⟩ := hh
            exact ih _ _ _ _ _ hun' (hnext v) hk
    · -- beside the chain
      have hU' : ∀ v, V.put oi.dst v = V → MixStG P ops C J rest V (listed.setIfInBounds i true) (a.put oi.dst v) := by
        intro v hv
        refine ⟨hS.sub, hS.nd, by simpa using hS.size, ?_, ?_, hclosed, by rw [put_defers']; exact hS.dfs, by rw [put_size]; exact hS.sz, ?_, fun i' o hi' ho hun2 => hS.settled i' o hi' ho (by
          by_cases e : i = i'
          · subst e
            have : i < listed.size := by rw [hS.size]; exact hilt
            simp [this] at hun2
          · rw [getD_set_ne true e] at hun2; exact hun2)⟩
        · intro k hk hkr
          have : k ≠ i := fun e => hiC (by rw [← e]; exact hk)
          rw [getD_set_ne true (Ne.symm this)]
          exact hS.dn k hk hkr
        · intro k hk
          have : k ≠ i := fun e => hiC (by rw [← e]; exact hS.sub k hk)
          rw [getD_set_ne true (Ne.symm this)]
          exact hS.un k hk
        · intro t ht
          by_cases hd : oi.dst = some t
          · rw [← hv, hd]
            by_cases hlt : t < a.tmps.size
            · have hlt' : t < V.tmps.size := by rw [← hS.sz]; exact hlt
              simp [Act.put, hlt, hlt']
            · have hlt' : ¬ t < V.tmps.size := by rw [← hS.sz]; exact hlt
              simp [Act.put, hlt, hlt']
          · rw [put_get_ne hd]
            refine hS.agree t (fun j oj hj hoj hun hdj => ?_)
            by_cases hji : j = i
            · subst hji
              have : oj = oi := Option.some.inj (hoj.symm.trans hoi)
              subst this
              exact hd hdj
            · exact ht j oj hj hoj (by rw [getD_set_ne true (Ne.symm hji)]; exact hun) hdj
      have hSt := hS.settled i oi hiC hoi hiun
      by_cases hw : Region.wanted oi (yielded ops V.tmps) = true
      · obtain ⟨v, hy, hv⟩ := hSt.1 hw
        rw [hwn, if_pos hw]
        refine .inl ?_
        unfold Oper.wp
        rw [he, hy w hJw]
        exact ih _ _ _ _ _ hun' (hU' v hv) hC
      · have hw' : Region.wanted oi (yielded ops V.tmps) = false := by simpa using hw
        rw [hwn, if_neg hw]
        exact ih _ _ _ _ _ hun' (hU' _ (hSt.2 hw')) hC

/-- THE RULE. -/
theorem wp_region_mixG {l : List Oper} {id : Nat} {a : Act} {w : World} (C : List Nat) (J : World → Prop) (hm : P.follows .mixedOrders = true) (hB : mixOkG l.toArray C = true)
    (h' : ∀ R : Act → Prop, (∀ A, wpF P l.toArray J Q C.length C A w.drew → R A) → wpM P l.toArray J R (beside C l 0) a) : (Code.region id l.toArray true).wp P Q a w := by
  have h := h' (fun A => wpF P l.toArray J Q C.length C A w.drew) (fun _ h => h)
  have hM := mixOkG_spec hB
  have hget : ∀ o ∈ beside C l 0, ∃ i, i ∉ C ∧ l[i]? = some o := fun o ho => by
    obtain ⟨i, h1, h2⟩ := beside_mem.1 ho
    exact ⟨i, by simpa using h2, h1⟩
  obtain ⟨A, hRA, hsz, hdf, hA, hset⟩ := wpM_settles (P := P) (J := J) (ops := l.toArray) hM.sel (beside C l 0) (fun o ho => by
      obtain ⟨i, _, h1⟩ := hget o ho
      have := List.mem_of_getElem? h1
      simpa using this)
    (by
      refine (beside_pair (C := C) (S := fun i oi j oj => ∀ d, oj.dst = some d → oi.dst ≠ some d ∧ d ∉ oi.looksAt l.toArray) (fun i j oi oj hi hj hij h1 h2 d hd => ?_)).imp (fun ⟨_, _, h⟩ => h)
      have := hM.pure (0 + i) oi (0 + j) oj d (by simpa using hi) (by simpa using hj) h1 hd
      exact ⟨this.1 (by omega), fun hl => by
        rcases this.2 hl with h3 | h3
        · have := h3.2.1; omega
        · exact h2 h3.1⟩)
    (fun o ho d hd hl => by
      obtain ⟨i, hiC, hio⟩ := hget o ho
      rcases (hM.pure i o i o d (by simpa using hio) (by simpa using hio) hiC hd).2 hl with h3 | h3
      · have := h3.2.1; omega
      · exact hiC h3.1) a h
  refine wp_region_any hm ?_
  have hun : unl l.toArray.size (Array.replicate l.toArray.size false) = l.toArray.size := unl_none _ _ (Nat.le_refl _)
  refine mixG_step hM l.toArray.size C A (Array.replicate l.toArray.size false) a w.drew hun ⟨fun c hc => hc, hM.nodup, by simp, fun c hc hn => absurd hc hn, fun c hc => getD_in (by simpa using hM.lt c hc) (getD_replicate_false _ _), fun j oj _ hl => ?_, hdf.symm, hsz.symm, fun t ht => (hA t (fun o ho hd => ?_)).symm, fun i o hi ho _ => hset o (beside_mem.2 ⟨i, by simpa using ho, by simpa using hi⟩)⟩ hRA
  · rename_i hoj
    have : j < l.toArray.size := (Array.getElem?_eq_some_iff.1 hoj).1
    have h2 : j < l.length := by simpa using this
    simp [h2] at hl
  · obtain ⟨i, hi, hio⟩ := hget o ho
    have hlt : i < l.length := (List.getElem?_eq_some_iff.1 hio).1
    exact ht i o hi (by simpa using hio) (by simp [hlt]) hd
end

/-- THE RULE, the chain's numbers by a mask too. -/
theorem wp_region_maskG {P : Program} {Q : Exit → Act → World → Prop} {l : List Oper} {id : Nat} {a : Act} {w : World} (C : List Nat) (mask : List Bool) (J : World → Prop) (hm : P.follows .mixedOrders = true) (hB : (mixOkG l.toArray C && mask == maskOf C l.length 0) = true)
    (h' : ∀ R : Act → Prop, (∀ A, wpF P l.toArray J Q C.length C A w.drew → R A) → wpM P l.toArray J R (marked mask l) a) : (Code.region id l.toArray true).wp P Q a w := by
  simp only [Bool.and_eq_true, beq_iff_eq] at hB
  refine wp_region_mixG C J hm hB.1 (fun R hR => ?_)
  have := h' R hR
  rw [hB.2, marked_eq] at this
  exact this
end
/-! ### MixT -/
section
open Go.RowKit

section
variable {P : Program} {ops : Array Oper} {J : World → Prop} {Q : Exit → Act → World → Prop}

/-- What the table must be; C: the chain's numbers. -/
def mixOkT (ops : Array Oper) (C : List Nat) : Bool :=
  Region.noSelect ops && decide C.Nodup && consec ops C && C.all (fun c => decide (c < ops.size)) && !C.isEmpty &&
  (List.range ops.size).all fun i => match ops[i]? with
    | none => true
    | some oi =>
      (oi.after.all fun e => !Region.binds .any e || decide (e.on < i)) &&
      (C.contains i || (List.range ops.size).any fun k => Region.waitsFor .any ops k i) &&
      (List.range ops.size).all fun j => match ops[j]? with
        | none => true
        | some oj => match oj.dst with
          | none => true
          | some d =>
            if C.contains i then C.contains j || (oi.dst != some d && (!(oi.looksAt ops).contains d || Region.waitsFor .any ops i j))
            else (decide (i = j) || oi.dst != some d) && (!(oi.looksAt ops).contains d || (!C.contains j && decide (j < i) && Region.waitsFor .any ops i j) || (C.contains j && Region.waitsFor .any ops j i))

structure MixFactsT (ops : Array Oper) (C : List Nat) : Prop where
  sel : ∀ o ∈ ops.toList, ∀ cs b, o.op ≠ .select cs b
  nodup : C.Nodup
  cons : consec ops C = true
  lt : ∀ c ∈ C, c < ops.size
  ne : C ≠ []
  back : ∀ (i : Nat) (oi : Oper), ops[i]? = some oi → ∀ e ∈ oi.after, Region.binds .any e = true → e.on < i
  waiter : ∀ (i : Nat), i < ops.size → i ∉ C → ∃ k, k < ops.size ∧ Region.waitsFor .any ops k i = true
  chain : ∀ (i : Nat) (oi : Oper) (j : Nat) (oj : Oper) (d : Tmp), ops[i]? = some oi → ops[j]? = some oj → i ∈ C → j ∉ C → oj.dst = some d → oi.dst ≠ some d ∧ (d ∈ oi.looksAt ops → Region.waitsFor .any ops i j = true)
  pure : ∀ (i : Nat) (oi : Oper) (j : Nat) (oj : Oper) (d : Tmp), ops[i]? = some oi → ops[j]? = some oj → i ∉ C → oj.dst = some d → (i ≠ j → oi.dst ≠ some d) ∧ (d ∈ oi.looksAt ops → (j ∉ C ∧ j < i ∧ Region.waitsFor .any ops i j = true) ∨ (j ∈ C ∧ Region.waitsFor .any ops j i = true))

theorem mixOkT_spec {C : List Nat} (h : mixOkT ops C = true) : MixFactsT ops C := by
  unfold mixOkT at h
  simp only [Bool.and_eq_true, decide_eq_true_eq, List.all_eq_true, Bool.not_eq_true', List.isEmpty_eq_false_iff] at h
  obtain ⟨⟨⟨⟨⟨h1, h2⟩, h3⟩, h4⟩, h5⟩, h6⟩ := h
  have hi6 : ∀ (i : Nat) (oi : Oper), ops[i]? = some oi → _ := fun i oi hi => by
    have := h6 i (List.mem_range.2 (Array.getElem?_eq_some_iff.1 hi).1)
    simp only [hi, Bool.and_eq_true, Bool.or_eq_true, List.all_eq_true] at this
    exact this
  have hij : ∀ (i : Nat) (oi : Oper) (j : Nat) (oj : Oper) (d : Tmp), ops[i]? = some oi → ops[j]? = some oj → oj.dst = some d → _ := fun i oi j oj d hi hj hd => by
    have := (hi6 i oi hi).2 j (List.mem_range.2 (Array.getElem?_eq_some_iff.1 hj).1)
    simp only [hj, hd] at this
    exact this
  refine ⟨fun o ho cs b => ?_, h2, h3, h4, h5, fun i oi hi e he hbd => ?_, fun i hi hC => ?_, fun i oi j oj d hi hj hC hjC hd => ?_, fun i oi j oj d hi hj hC hd => ?_⟩
  · obtain ⟨k, hk⟩ := List.getElem?_of_mem ho
    exact Region.noSelect_spec h1 k o cs b (by simpa using hk)
  · have := (Array.all_eq_true_iff_forall_mem.1 (hi6 i oi hi).1.1) e he
    simpa [hbd] using this
  · have hoi : ops[i]? = some ops[i] := by simp [hi]
    have := (hi6 i _ hoi).1.2.resolve_left (by simpa using hC)
    rw [List.any_eq_true] at this
    obtain ⟨k, hk, hw⟩ := this
    exact ⟨k, List.mem_range.1 hk, hw⟩
  · have := hij i oi j oj d hi hj hd
    rw [if_pos (by simpa using hC)] at this
    simp only [Bool.or_eq_true, List.contains_eq_mem, decide_eq_true_eq, Bool.and_eq_true, bne_iff_ne, Bool.not_eq_true', decide_eq_false_iff_not] at this
    have h7 := this.resolve_left hjC
    exact ⟨h7.1, fun hl => h7.2.resolve_left (fun hn => hn hl)⟩
  · have := hij i oi j oj d hi hj hd
    rw [if_neg (by simpa using hC)] at this
    simp only [Bool.or_eq_true, List.contains_eq_mem, decide_eq_true_eq, Bool.and_eq_true, bne_iff_ne, Bool.not_eq_true', decide_eq_false_iff_not] at this
    refine ⟨fun hne => this.1.resolve_left hne, fun hl => ?_⟩
    rcases this.2 with h7 | h7
    · have h8 := h7.resolve_left (fun hn => hn hl)
      exact .inl ⟨h8.1.1, h8.1.2, h8.2⟩
    · exact .inr h7

/-- How far the region has come: done: the chain's operations that have been run. -/
structure MixStT (P : Program) (ops : Array Oper) (C : List Nat) (J : World → Prop) (done rest : List Nat) (V : Act) (listed : Array Bool) (a : Act) : Prop where
  split : C = done ++ rest
  size : listed.size = ops.size
  dn : ∀ c ∈ done, listed.getD c true = true
  un : ∀ c ∈ rest, listed.getD c true = false
  closed : ∀ (j : Nat) (oj : Oper), ops[j]? = some oj → listed.getD j true = true → ∀ e ∈ oj.after, Region.binds .any e = true → listed.getD e.on false = true
  dfs : a.defers = V.defers
  sz : a.tmps.size = V.tmps.size
  agree : ∀ t, (∀ j oj, j ∉ C → ops[j]? = some oj → listed.getD j true = false → oj.dst ≠ some t) → a.tmps[t]? = V.tmps[t]?
  settled : ∀ i o, i ∉ C → ops[i]? = some o → listed.getD i true = false → SettledP P ops J o V

theorem SettledP.afterT {C : List Nat} (hM : MixFactsT ops C) {i : Nat} {o : Oper} (hi : i ∉ C) (ho : ops[i]? = some o) {c : Nat} {oc : Oper} (hc : c ∈ C) (hoc : ops[c]? = some oc) (hnw : ∀ t, oc.dst = some t → t ∉ o.looksAt ops) {V : Act} (h : SettledP P ops J o V) (v : Value) : SettledP P ops J o (V.put oc.dst v) := by
  have hl : ∀ t ∈ o.looksAt ops, (V.put oc.dst v).tmps[t]? = V.tmps[t]? := fun t ht => put_get_ne (fun hd => hnw t hd ht)
  have he := exec_of_agree (ops := ops) (hM.sel o (by have := Array.mem_of_getElem? ho; simpa using this)) hl
  have hwn := wanted_of_agree (ops := ops) hl
  have hput : ∀ u, V.put o.dst u = V → (V.put oc.dst v).put o.dst u = V.put oc.dst v := by
    intro u hu
    refine put_self (a := V.put oc.dst v) (fun d hd => ?_) rfl
    have h1 : (V.put oc.dst v).tmps[d]? = V.tmps[d]? := put_get_ne (fun hd' => (hM.pure i o c oc d ho hoc hi hd').1 (fun e => hi (e ▸ hc)) hd)
    have h2 : (V.put o.dst u).tmps[d]? = V.tmps[d]? := by rw [hu]
    rw [hd] at h2 ⊢
    rw [h1]
    by_cases hlt : d < V.tmps.size
    · have hlt' : d < (V.put oc.dst v).tmps.size := by rw [put_size]; exact hlt
      simp only [Act.put, Array.getElem?_setIfInBounds, if_pos hlt, if_true] at h2
      have e2 : ((V.put oc.dst v).put (some d) u).tmps[d]? = some u := by
        show ((V.put oc.dst v).tmps.setIfInBounds d u)[d]? = _
        simp [hlt']
      rw [e2, h2]
    · have hlt' : ¬ d < (V.put oc.dst v).tmps.size := by rw [put_size]; exact hlt
      have e2 : ((V.put oc.dst v).put (some d) u).tmps[d]? = none := by
        show ((V.put oc.dst v).tmps.setIfInBounds d u)[d]? = _
        simp [hlt']
      rw [e2]
      exact Array.getElem?_eq_none (Nat.le_of_not_lt hlt)
  refine ⟨fun hw => ?_, fun hw => ?_⟩
  · rw [hwn] at hw
    obtain ⟨u, h1, h2⟩ := h.1 hw
    exact ⟨u, fun w hJ => by rw [he]; exact h1 w hJ, hput u h2⟩
  · rw [hwn] at hw
    exact hput undef (h.2 hw)

theorem mixT_step {C : List Nat} (hM : MixFactsT ops C) : ∀ (m : Nat) (done rest : List Nat) (V : Act) (listed : Array Bool) (a : Act) (w : World), unl ops.size listed = m → MixStT P ops C J done rest V listed a → wpC P ops J Q rest V w → wpAny P .any ops Q m listed a w := by
  intro m
  induction m with
  | zero =>
    intro done rest V listed a w hm hS hC
    have hall : ∀ i, i < ops.size → listed.getD i true = true := by
      intro i hi
      unfold unl at hm
      rw [List.countP_eq_zero] at hm
      have := hm i (List.mem_range.2 hi)
      simpa using this
    have hr : rest = [] := by
      cases rest with
      | nil => rfl
      | cons c r =>
        have h1 := hS.un c (List.mem_cons_self ..)
        rw [hall c (hM.lt c (by rw [hS.split]; simp))] at h1
        cases h1
    subst hr
    have ha : a = V := by
      have h1 : a.tmps = V.tmps := by
        apply Array.ext_getElem?
        intro t
        refine hS.agree t (fun j oj _ hoj hun => ?_)
        rw [hall j (Array.getElem?_eq_some_iff.1 hoj).1] at hun; cases hun
      have h2 := hS.dfs
      cases a; cases V; simp_all
    subst ha
    refine ⟨?_, hC⟩
    rw [List.eq_nil_iff_forall_not_mem]
    intro i hi
    obtain ⟨hun, oi, hoi, _⟩ := mem_ready.1 hi
    rw [hall i (Array.getElem?_eq_some_iff.1 hoi).1] at hun
    cases hun
  | succ m ih =>
    intro done rest V listed a w hm hS hC
    have hex : ∃ i, i < ops.size ∧ listed.getD i true = false := by
      have : 0 < unl ops.size listed := by omega
      unfold unl at this
      rw [List.countP_pos_iff] at this
      obtain ⟨i, hi, h⟩ := this
      exact ⟨i, List.mem_range.1 hi, by simpa using h⟩
    have hsmall : ∀ k i, i ≤ k → i < ops.size → listed.getD i true = false → ∃ j, j ∈ Region.ready .any ops listed := by
      intro k
      induction k with
      | zero =>
        intro i hi hlt hun
        refine ⟨i, mem_ready.2 ⟨hun, ops[i], by simp [hlt], fun e he hbd => ?_⟩⟩
        have := hM.back i ops[i] (by simp [hlt]) e he hbd
        omega
      | succ k ihk =>
        intro i hi hlt hun
        by_cases hex2 : ∃ e ∈ (ops[i]).after, Region.binds .any e = true ∧ listed.getD e.on false = false
        · obtain ⟨e, he, hbd, hf⟩ := hex2
          have hlt2 := hM.back i ops[i] (by simp [hlt]) e he hbd
          exact ihk e.on (by omega) (by omega) (getD_in (by rw [hS.size]; omega) hf)
        · refine ⟨i, mem_ready.2 ⟨hun, ops[i], by simp [hlt], fun e he hbd => ?_⟩⟩
          cases hf : listed.getD e.on false with
          | true => rfl
          | false => exact absurd ⟨e, he, hbd, hf⟩ hex2
    -- an operation beside the chain that has not been run: the chain is not at its end
    have hleft : ∀ d i, ops.size - i ≤ d → i < ops.size → listed.getD i true = false → ∃ c, c ∈ rest := by
      intro d
      induction d with
      | zero => intro i hi hlt _; omega
      | succ d ihd =>
        intro i hi hlt hun
        by_cases hiC : i ∈ C
        · rw [hS.split] at hiC
          rcases List.mem_append.1 hiC with h | h
          · rw [hS.dn i h] at hun; cases hun
          · exact ⟨i, h⟩
        · obtain ⟨k, hk, hwf⟩ := hM.waiter i hlt hiC
          have hok : ops[k]? = some ops[k] := by simp [hk]
          have hik : i < k := by
            obtain ⟨o', ho', e, he, hb, hon⟩ := Region.waitsFor_spec hwf
            have := hM.back k o' ho' e he hb
            omega
          have hku : listed.getD k true = false := by
            cases hf : listed.getD k true with
            | false => rfl
            | true =>
              have := waits_listed hwf hok (hS.closed k _ hok hf)
              rw [getD_both hun] at this
              cases this
          exact ihd k (by omega) hk hku
    obtain ⟨i0, hi0, hun0⟩ := hex
    obtain ⟨j0, hj0⟩ := hsmall i0 i0 (Nat.le_refl _) hi0 hun0
    obtain ⟨c0, hc0⟩ := hleft _ i0 (Nat.le_refl _) hi0 hun0
    refine ⟨fun h => (by rw [h] at hj0; cases hj0), fun i hi => ?_⟩
    obtain ⟨hiun, oi, hoi, hall⟩ := mem_ready.1 hi
    have hilt := (Array.getElem?_eq_some_iff.1 hoi).1
    have hun' : unl ops.size (listed.setIfInBounds i true) = m := by
      have := unl_set hilt hiun
      omega
    have hJw : J w := by
      cases rest with
      | nil => cases hc0
      | cons c r => exact hC.1
    have hag : ∀ t ∈ oi.looksAt ops, a.tmps[t]? = V.tmps[t]? := by
      intro t ht
      refine hS.agree t (fun j oj hj hoj hun hd => ?_)
      have hwf : Region.waitsFor .any ops i j = true := by
        by_cases hiC : i ∈ C
        · exact (hM.chain i oi j oj t hoi hoj hiC hj hd).2 ht
        · rcases (hM.pure i oi j oj t hoi hoj hiC hd).2 ht with h | h
          · exact h.2.2
          · exact absurd h.1 hj
      have h3 := waits_listed hwf hoi hall
      rw [getD_both hun] at h3
      cases h3
    have he := exec_of_agree (ops := ops) (hM.sel oi (by
      have := Array.mem_of_getElem? hoi
      simpa using this)) hag
    have hwn := wanted_of_agree (ops := ops) hag
    have hclosed : ∀ (j : Nat) (oj : Oper), ops[j]? = some oj → (listed.setIfInBounds i true).getD j true = true → ∀ e ∈ oj.after, Region.binds .any e = true → (listed.setIfInBounds i true).getD e.on false = true := by
      intro j oj hoj hl e he' hb
      have hset : ∀ k, listed.getD k false = true → (listed.setIfInBounds i true).getD k false = true := fun k hk => by
        by_cases hki : k = i
        · subst hki
          have : k < listed.size := by rw [hS.size]; exact hilt
          simp [this]
        · rw [getD_set_ne false (Ne.symm hki)]; exact hk
      by_cases hji : j = i
      · subst hji
        have : oj = oi := Option.some.inj (hoj.symm.trans hoi)
        subst this
        exact hset _ (hall e he' hb)
      · rw [getD_set_ne true (Ne.symm hji)] at hl
        exact hset _ (hS.closed j oj hoj hl e he' hb)
    unfold wpOp
    simp only [hoi]
    by_cases hiC : i ∈ C
    · -- the chain's next operation
      have hir : i ∈ rest := by
        rw [hS.split] at hiC
        rcases List.mem_append.1 hiC with h | h
        · rw [hS.dn i h] at hiun; cases hiun
        · exact h
      have hcr : consec ops rest = true := by
        have : ∀ (d r : List Nat), consec ops (d ++ r) = true → consec ops r = true := by
          intro d
          induction d with
          | nil => exact fun r h => h
          | cons x d ihx => exact fun r h => ihx r (consec_tail h)
        exact this done rest (by rw [← hS.split]; exact hM.cons)
      have hhd := consec_ready hcr hS.un i hir (fun oc hoc => by
        have : oc = oi := Option.some.inj (hoc.symm.trans hoi)
        subst this
        exact hall) (by rw [hoi]; rfl)
      cases rest with
      | nil => cases hir
      | cons c r =>
        simp only [List.head?_cons, Option.some.injEq] at hhd
        subst hhd
        obtain ⟨_, o', ho', hgd, hstep⟩ := hC
        have : o' = oi := Option.some.inj (ho'.symm.trans hoi)
        subst this
        have hw : Region.wanted o' (yielded ops a.tmps) = true := by simp [Region.wanted, hgd]
        rw [if_pos hw]
        refine .inl ?_
        have hnext : ∀ v, MixStT P ops C J (done ++ [c]) r (V.put o'.dst v) (listed.setIfInBounds c true) (a.put o'.dst v) := by
          intro v
          have hcn : c ∉ r := by
            have := hM.nodup
            rw [hS.split] at this
            have := (List.nodup_append.1 this).2.1
            exact (List.nodup_cons.1 this).1
          refine ⟨by rw [hS.split]; simp, by simpa using hS.size, ?_, ?_, hclosed, by rw [put_defers', put_defers']; exact hS.dfs, by rw [put_size, put_size]; exact hS.sz, ?_, fun i' o hi' ho hun2 => ?_⟩
          · intro k hk
            by_cases hkc : k = c
            · subst hkc
              have : k < listed.size := by rw [hS.size]; exact hilt
              simp [this]
            · rw [getD_set_ne true (Ne.symm hkc)]
              rcases List.mem_append.1 hk with h | h
              · exact hS.dn k h
              · simp at h; exact absurd h hkc
          · intro k hk
            have hkc : k ≠ c := fun e => hcn (e ▸ hk)
            rw [getD_set_ne true (Ne.symm hkc)]
            exact hS.un k (List.mem_cons_of_mem _ hk)
          · intro t ht
            by_cases hd : o'.dst = some t
            · rw [hd]
              by_cases hlt : t < a.tmps.size
              · have hlt' : t < V.tmps.size := by rw [← hS.sz]; exact hlt
                simp [Act.put, hlt, hlt']
              · have hlt' : ¬ t < V.tmps.size := by rw [← hS.sz]; exact hlt
                simp [Act.put, hlt, hlt']
            · rw [put_get_ne hd, put_get_ne hd]
              refine hS.agree t (fun j oj hj hoj hun => ?_)
              exact ht j oj hj hoj (by rw [getD_set_ne true (fun e : c = j => hj (by rw [← e]; exact hiC))]; exact hun)
          · have hne : c ≠ i' := fun e => hi' (e ▸ hiC)
            rw [getD_set_ne true hne] at hun2
            refine (hS.settled i' o hi' ho hun2).afterT hM hi' ho hiC hoi (fun t hd hl => ?_) v
            rcases (hM.pure i' o c o' t ho hoi hi' hd).2 hl with h | h
            · exact h.1 hiC
            · have := waits_listed h.2 hoi hall
              rw [getD_both hun2] at this
              cases this
        unfold Oper.wp
        rw [he]
        generalize (execOp V.eval o').run P w = r' at hstep
        cases r' with
        | halt x w' => exact hstep.elim
        | ok nx w' =>
          cases nx <;> simp only [StepC] at hstep <;> simp only [Oper.upon]
          case value u => exact ih _ _ _ _ _ _ hun' (hnext u) hstep
          case skip => exact ih _ _ _ _ _ _ hun' (hnext undef) hstep
          case enter f args =>
            refine Calls.mono hstep (fun e w'' hh => ?_)
            obtain ⟨v, rfl, hk⟩ := hh
            exact ih _ _ _ _ _ _ hun' (hnext v) hk
    · -- beside the chain
      have hU' : ∀ v, V.put oi.dst v = V → MixStT P ops C J done rest V (listed.setIfInBounds i true) (a.put oi.dst v) := by
        intro v hv
        refine ⟨hS.split, by simpa using hS.size, ?_, ?_, hclosed, by rw [put_defers']; exact hS.dfs, by rw [put_size]; exact hS.sz, ?_, fun i' o hi' ho hun2 => ?_⟩
        · intro k hk
          have : k ≠ i := fun e => hiC (by rw [hS.split, ← e]; exact List.mem_append_left _ hk)
          rw [getD_set_ne true (Ne.symm this)]
          exact hS.dn k hk
        · intro k hk
          have : k ≠ i := fun e => hiC (by rw [hS.split, ← e]; exact List.mem_append_right _ hk)
          rw [getD_set_ne true (Ne.symm this)]
          exact hS.un k hk
        · intro t ht
          by_cases hd : oi.dst = some t
          · rw [← hv, hd]
            by_cases hlt : t < a.tmps.size
            · have hlt' : t < V.tmps.size := by rw [← hS.sz]; exact hlt
              simp [Act.put, hlt, hlt']
            · have hlt' : ¬ t < V.tmps.size := by rw [← hS.sz]; exact hlt
              simp [Act.put, hlt, hlt']
          · rw [put_get_ne hd]
            refine hS.agree t (fun j oj hj hoj hun hdj => ?_)
            by_cases hji : j = i
            · subst hji
              have : oj = oi := Option.some.inj (hoj.symm.trans hoi)
              subst this
              exact hd hdj
            · exact ht j oj hj hoj (by rw [getD_set_ne true (Ne.symm hji)]; exact hun) hdj
        · have hne : i ≠ i' := fun e => by
            subst e
            have : i < listed.size := by rw [hS.size]; exact hilt
            simp [this] at hun2
          rw [getD_set_ne true hne] at hun2
          exact hS.settled i' o hi' ho hun2
      have hSt := hS.settled i oi hiC hoi hiun
      by_cases hw : Region.wanted oi (yielded ops V.tmps) = true
      · obtain ⟨v, hy, hv⟩ := hSt.1 hw
        rw [hwn, if_pos hw]
        refine .inl ?_
        unfold Oper.wp
        rw [he, hy w hJw]
        exact ih _ _ _ _ _ _ hun' (hU' v hv) hC
      · have hw' : Region.wanted oi (yielded ops V.tmps) = false := by simpa using hw
        rw [hwn, if_neg hw]
        exact ih _ _ _ _ _ _ hun' (hU' _ (hSt.2 hw')) hC

/-- THE RULE. -/
theorem wp_region_mixT {l : List Oper} {id : Nat} {a : Act} {w : World} (C : List Nat) (J : World → Prop) (hm : P.follows .mixedOrders = true) (hB : mixOkT l.toArray C = true)
    (h' : ∀ R : Act → Prop, (∀ A, wpC P l.toArray J Q C A w.drew → R A) → wpM P l.toArray J R (beside C l 0) a) : (Code.region id l.toArray true).wp P Q a w := by
  have h := h' (fun A => wpC P l.toArray J Q C A w.drew) (fun _ h => h)
  have hM := mixOkT_spec hB
  have hget : ∀ o ∈ beside C l 0, ∃ i, i ∉ C ∧ l[i]? = some o := fun o ho => by
    obtain ⟨i, h1, h2⟩ := beside_mem.1 ho
    exact ⟨i, by simpa using h2, h1⟩
  obtain ⟨A, hRA, hsz, hdf, hA, hset⟩ := wpM_settles (P := P) (J := J) (ops := l.toArray) hM.sel (beside C l 0) (fun o ho => by
      obtain ⟨i, _, h1⟩ := hget o ho
      have := List.mem_of_getElem? h1
      simpa using this)
    (by
      refine (beside_pair (C := C) (S := fun i oi j oj => ∀ d, oj.dst = some d → oi.dst ≠ some d ∧ d ∉ oi.looksAt l.toArray) (fun i j oi oj hi hj hij h1 h2 d hd => ?_)).imp (fun ⟨_, _, h⟩ => h)
      have := hM.pure (0 + i) oi (0 + j) oj d (by simpa using hi) (by simpa using hj) h1 hd
      exact ⟨this.1 (by omega), fun hl => by
        rcases this.2 hl with h3 | h3
        · have := h3.2.1; omega
        · exact h2 h3.1⟩)
    (fun o ho d hd hl => by
      obtain ⟨i, hiC, hio⟩ := hget o ho
      rcases (hM.pure i o i o d (by simpa using hio) (by simpa using hio) hiC hd).2 hl with h3 | h3
      · have := h3.2.1; omega
      · exact hiC h3.1) a h
  refine wp_region_any hm ?_
  have hun : unl l.toArray.size (Array.replicate l.toArray.size false) = l.toArray.size := unl_none _ _ (Nat.le_refl _)
  refine mixT_step hM l.toArray.size [] C A (Array.replicate l.toArray.size false) a w.drew hun ⟨rfl, by simp, fun c hc => (by cases hc), fun c hc => getD_in (by simpa using hM.lt c hc) (getD_replicate_false _ _), fun j oj _ hl => ?_, hdf.symm, hsz.symm, fun t ht => (hA t (fun o ho hd => ?_)).symm, fun i o hi ho _ => hset o (beside_mem.2 ⟨i, by simpa using ho, by simpa using hi⟩)⟩ hRA
  · rename_i hoj
    have : j < l.toArray.size := (Array.getElem?_eq_some_iff.1 hoj).1
    have h2 : j < l.length := by simpa using this
    simp [h2] at hl
  · obtain ⟨i, hi, hio⟩ := hget o ho
    have hlt : i < l.length := (List.getElem?_eq_some_iff.1 hio).1
    exact ht i o hi (by simpa using hio) (by simp [hlt]) hd
end

/-- THE RULE, the chain's numbers by a mask too. -/
theorem wp_region_maskT {P : Program} {Q : Exit → Act → World → Prop} {l : List Oper} {id : Nat} {a : Act} {w : World} (C : List Nat) (mask : List Bool) (J : World → Prop) (hm : P.follows .mixedOrders = true) (hB : (mixOkT l.toArray C && mask == maskOf C l.length 0) = true)
    (h' : ∀ R : Act → Prop, (∀ A, wpC P l.toArray J Q C A w.drew → R A) → wpM P l.toArray J R (marked mask l) a) : (Code.region id l.toArray true).wp P Q a w := by
  simp only [Bool.and_eq_true, beq_iff_eq] at hB
  refine wp_region_mixT C J hm hB.1 (fun R hR => ?_)
  have := h' R hR
  rw [hB.2, marked_eq] at this
  exact this
end
/-! ### Phase -/
section
open Go.RowKit

section
variable {P : Program} {ops : Array Oper} {Inv : World → Prop} {Q : Exit → Act → World → Prop}

/-- Pairs of one stretch: different slots; what one reads of another, it waits for. -/
def segOk (ops : Array Oper) (lo hi : Nat) : Bool :=
  (List.range hi).all fun i => decide (i < lo) || match ops[i]? with
    | none => true
    | some oi => (List.range hi).all fun j => decide (j < lo) || match ops[j]? with
        | none => true
        | some oj => match oj.dst with
          | none => true
          | some d => (decide (i = j) || oi.dst != some d) && (!(oi.looksAt ops).contains d || (decide (j < i) && Region.waitsFor .any ops i j))
theorem segOk_spec {lo hi : Nat} (h : segOk ops lo hi = true) (i : Nat) (oi : Oper) (j : Nat) (oj : Oper) (d : Tmp) (hi' : ops[i]? = some oi) (hj : ops[j]? = some oj) (h1 : lo ≤ i) (h2 : i < hi) (h3 : lo ≤ j) (h4 : j < hi) (hd : oj.dst = some d) :
    (i ≠ j → oi.dst ≠ some d) ∧ (d ∈ oi.looksAt ops → j < i ∧ Region.waitsFor .any ops i j = true) := by
  unfold segOk at h
  rw [List.all_eq_true] at h
  have h5 := h i (List.mem_range.2 h2)
  simp only [hi', Bool.or_eq_true, decide_eq_true_eq] at h5
  have h6 := h5.resolve_left (by omega)
  rw [List.all_eq_true] at h6
  have h7 := h6 j (List.mem_range.2 h4)
  simp only [hj, hd, Bool.or_eq_true, decide_eq_true_eq] at h7
  have h8 := h7.resolve_left (by omega)
  simp only [Bool.and_eq_true, Bool.or_eq_true, decide_eq_true_eq, bne_iff_ne, Bool.not_eq_true', List.contains_eq_mem, decide_eq_false_iff_not] at h8
  exact ⟨fun hne => h8.1.resolve_left hne, fun hl => h8.2.resolve_left (fun hc => hc hl)⟩

/-- Operation c waits for all before it, and all behind it wait for it. -/
def cutOk (ops : Array Oper) (c : Nat) : Bool :=
  ((List.range c).all fun j => (List.range (c + 1)).any fun k => decide (j < k) && Region.waitsFor .any ops k j) &&
  ((List.range ops.size).all fun i => decide (i ≤ c) || (List.range i).any fun k => decide (c ≤ k) && Region.waitsFor .any ops i k)

structure Closed (ops : Array Oper) (listed : Array Bool) : Prop where
  size : listed.size = ops.size
  closed : ∀ j oj, ops[j]? = some oj → listed.getD j false = true → ∀ e ∈ oj.after, Region.binds .any e = true → listed.getD e.on false = true

theorem Closed.waits {listed : Array Bool} (h : Closed ops listed) {k j : Nat} (hk : listed.getD k false = true) (hw : Region.waitsFor .any ops k j = true) : listed.getD j false = true := by
  obtain ⟨o', ho', e, he, hb, hon⟩ := Region.waitsFor_spec hw
  have := h.closed k o' ho' hk e he hb
  rwa [hon] at this

theorem cut_below {c : Nat} (hc : cutOk ops c = true) {listed : Array Bool} (h : Closed ops listed) (hcl : listed.getD c false = true) : ∀ d j, c - j ≤ d → j < c → listed.getD j false = true := by
  simp only [cutOk, Bool.and_eq_true, List.all_eq_true, List.mem_range, List.any_eq_true, decide_eq_true_eq] at hc
  intro d
  induction d with
  | zero => intro j hd hj; omega
  | succ d ih =>
    intro j hd hj
    obtain ⟨k, hk, hjk, hw⟩ := hc.1 j hj
    rcases Nat.lt_or_ge k c with hlt | hge
    · exact h.waits (ih k (by omega) hlt) hw
    · have : k = c := by omega
      subst this
      exact h.waits hcl hw
theorem cut_ready {c : Nat} (hc : cutOk ops c = true) {listed : Array Bool} (h : Closed ops listed) {i : Nat} (hi : i ∈ Region.ready .any ops listed) (hic : c ≤ i) : (∀ j, j < c → listed.getD j false = true) ∧ (c < i → listed.getD c false = true) := by
  obtain ⟨hun, oi, hoi, hall⟩ := mem_ready.1 hi
  have hlt := (Array.getElem?_eq_some_iff.1 hoi).1
  have hc' := hc
  simp only [cutOk, Bool.and_eq_true, List.all_eq_true, List.mem_range, List.any_eq_true, decide_eq_true_eq, Bool.or_eq_true] at hc'
  have up : ∀ d k, k ≤ d → c ≤ k → k < ops.size → listed.getD k false = true → listed.getD c false = true := by
    intro d
    induction d with
    | zero =>
      intro k hk hck _ hl
      have : k = c := by omega
      subst this
      exact hl
    | succ d ih =>
      intro k hk hck hks hl
      by_cases he : k = c
      · subst he
        exact hl
      · obtain ⟨k', hk', hck', hw⟩ := (hc'.2 k hks).resolve_left (by omega)
        exact ih k' (by omega) hck' (by omega) (h.waits hl hw)
  have hcl : c < i → listed.getD c false = true := fun hci => by
    obtain ⟨k, hk, hck, hw⟩ := (hc'.2 i hlt).resolve_left (by omega)
    obtain ⟨o', ho', e, he, hb, hon⟩ := Region.waitsFor_spec hw
    have : o' = oi := Option.some.inj (ho'.symm.trans hoi)
    subst this
    have h2 := hall e he hb
    rw [hon] at h2
    exact up k k (Nat.le_refl _) hck (by omega) h2
  refine ⟨fun j hj => ?_, hcl⟩
  rcases Nat.lt_or_ge c i with hci | hci
  · exact cut_below hc h (hcl hci) _ j (Nat.le_refl _) hj
  · have : i = c := by omega
    subst this
    have dn : ∀ d j, i - j ≤ d → j < i → listed.getD j false = true := by
      intro d
      induction d with
      | zero => intro j hd hj; omega
      | succ d ih =>
        intro j hd hj
        obtain ⟨k, hk, hjk, hw⟩ := hc'.1 j hj
        rcases Nat.lt_or_ge k i with hlt' | hge
        · exact h.waits (ih k (by omega) hlt') hw
        · have : k = i := by omega
          subst this
          obtain ⟨o', ho', e, he, hb, hon⟩ := Region.waitsFor_spec hw
          have : o' = oi := Option.some.inj (ho'.symm.trans hoi)
          subst this
          have h2 := hall e he hb
          rwa [hon] at h2
    exact dn _ j (Nat.le_refl _) hj

/-- How far a stretch has come. -/
structure UptoS (ops : Array Oper) (lo hi : Nat) (A : Act) (listed : Array Bool) (a : Act) : Prop where
  cl : Closed ops listed
  low : ∀ i, i < lo → listed.getD i true = true
  tail : ∀ t, hi ≤ t → t < ops.size → listed.getD t true = false
  dfs : a.defers = A.defers
  sz : a.tmps.size = A.tmps.size
  agree : ∀ t, (∀ j oj, lo ≤ j → j < hi → ops[j]? = some oj → listed.getD j true = false → oj.dst ≠ some t) → a.tmps[t]? = A.tmps[t]?

def backOk (ops : Array Oper) : Bool :=
  Region.noSelect ops && (List.range ops.size).all fun i => match ops[i]? with
    | none => true
    | some oi => oi.after.all fun e => !Region.binds .any e || decide (e.on < i)
theorem backOk_spec (h : backOk ops = true) : (∀ o ∈ ops.toList, ∀ cs b, o.op ≠ .select cs b) ∧ (∀ (i : Nat) (oi : Oper), ops[i]? = some oi → ∀ e ∈ oi.after, Region.binds .any e = true → e.on < i) := by
  unfold backOk at h
  simp only [Bool.and_eq_true] at h
  obtain ⟨h1, h3⟩ := h
  rw [List.all_eq_true] at h3
  refine ⟨fun o ho cs b => ?_, fun i oi hi e he hbd => ?_⟩
  · obtain ⟨k, hk⟩ := List.getElem?_of_mem ho
    exact Region.noSelect_spec h1 k o cs b (by simpa using hk)
  · have := h3 i (List.mem_range.2 (Array.getElem?_eq_some_iff.1 hi).1)
    simp only [hi] at this
    have := (Array.all_eq_true_iff_forall_mem.1 this) e he
    simpa [hbd] using this

theorem Closed.set {listed : Array Bool} (h : Closed ops listed) {i : Nat} (hi : i ∈ Region.ready .any ops listed) : Closed ops (listed.setIfInBounds i true) := by
  obtain ⟨hun, oi, hoi, hall⟩ := mem_ready.1 hi
  have hmono : ∀ k, listed.getD k false = true → (listed.setIfInBounds i true).getD k false = true := fun k hk => by
    by_cases he : i = k
    · subst he
      rw [getD_both hun] at hk
      cases hk
    · rw [getD_set_ne false he]
      exact hk
  refine ⟨by rw [Array.size_setIfInBounds, h.size], fun j oj hj hl e he hbd => hmono _ ?_⟩
  by_cases hji : i = j
  · subst hji
    have : oj = oi := Option.some.inj (hj.symm.trans hoi)
    subst this
    exact hall e he hbd
  · rw [getD_set_ne false hji] at hl
    exact h.closed j oj hj hl e he hbd

theorem finL_of {listed : Array Bool} {hi : Nat} (hs : listed.size = ops.size) (h1 : ∀ i, i < hi → listed.getD i true = true) (h2 : ∀ t, hi ≤ t → t < ops.size → listed.getD t true = false) : listed = finL ops.size hi := by
  apply Array.ext_getElem?
  intro i
  rcases Nat.lt_or_ge i ops.size with hi' | hi'
  · have hl : i < listed.size := by rw [hs]; exact hi'
    by_cases hin : i < hi
    · have := h1 i hin
      simp [hl] at this
      simp [finL, hi', hl, hin, this]
    · have := h2 i (by omega) hi'
      simp [hl] at this
      simp [finL, hi', hl, hin, this]
  · have hl : listed.size ≤ i := by rw [hs]; exact hi'
    simp [finL, hi', hl]

/-- One stretch, in whatever order. -/
theorem wpAny_phase {lo hi : Nat} {A : Act} (hB : backOk ops = true) (hS : segOk ops lo hi = true) (hhi : hi ≤ ops.size) (hc : hi = ops.size ∨ cutOk ops hi = true) (hset : ∀ i o, lo ≤ i → i < hi → ops[i]? = some o → Settled P ops Inv o A)
    (hK : ∀ w, Inv w → wpAny P .any ops Q (ops.size - hi) (finL ops.size hi) A w) :
    ∀ (m : Nat) (listed : Array Bool) (a : Act) (w : World), unl hi listed = m → UptoS ops lo hi A listed a → Inv w → wpAny P .any ops Q (m + (ops.size - hi)) listed a w := by
  obtain ⟨hsel, hback⟩ := backOk_spec hB
  intro m
  induction m with
  | zero =>
    intro listed a w hm hU hInv
    have hall : ∀ i, i < hi → listed.getD i true = true := by
      intro i hi'
      unfold unl at hm
      rw [List.countP_eq_zero] at hm
      have := hm i (List.mem_range.2 hi')
      simpa using this
    have ha : a = A := by
      have h1 : a.tmps = A.tmps := by
        apply Array.ext_getElem?
        intro t
        refine hU.agree t (fun j oj _ hj _ hun => ?_)
        rw [hall j hj] at hun; cases hun
      have h2 := hU.dfs
      cases a; cases A; simp_all
    have hl := finL_of (hi := hi) hU.cl.size hall hU.tail
    subst ha
    subst hl
    rw [Nat.zero_add]
    exact hK w hInv
  | succ m ih =>
    intro listed a w hm hU hInv
    have hex : ∃ i, i < hi ∧ listed.getD i true = false := by
      have : 0 < unl hi listed := by omega
      unfold unl at this
      rw [List.countP_pos_iff] at this
      obtain ⟨i, hi', h⟩ := this
      exact ⟨i, List.mem_range.1 hi', by simpa using h⟩
    have hsmall : ∀ k i, i ≤ k → i < hi → listed.getD i true = false → ∃ j, j ∈ Region.ready .any ops listed := by
      intro k
      induction k with
      | zero =>
        intro i hi' hin hun
        have hlt : i < ops.size := by omega
        refine ⟨i, mem_ready.2 ⟨hun, ops[i], by simp [hlt], fun e he hbd => ?_⟩⟩
        have := hback i ops[i] (by simp [hlt]) e he hbd
        omega
      | succ k ihk =>
        intro i hi' hin hun
        have hlt : i < ops.size := by omega
        by_cases hex2 : ∃ e ∈ (ops[i]).after, Region.binds .any e = true ∧ listed.getD e.on false = false
        · obtain ⟨e, he, hbd, hf⟩ := hex2
          have hlt2 := hback i ops[i] (by simp [hlt]) e he hbd
          exact ihk e.on (by omega) (by omega) (getD_in (by rw [hU.cl.size]; omega) hf)
        · refine ⟨i, mem_ready.2 ⟨hun, ops[i], by simp [hlt], fun e he hbd => ?_⟩⟩
          cases hf : listed.getD e.on false with
          | true => rfl
          | false => exact absurd ⟨e, he, hbd, hf⟩ hex2
    obtain ⟨i0, hi0, hun0⟩ := hex
    obtain ⟨j0, hj0⟩ := hsmall i0 i0 (Nat.le_refl _) hi0 hun0
    rw [show m + 1 + (ops.size - hi) = (m + (ops.size - hi)) + 1 by omega]
    refine ⟨fun h => (by rw [h] at hj0; cases hj0), fun i hir => ?_⟩
    obtain ⟨hiun, oi, hoi, hall⟩ := mem_ready.1 hir
    have hin : i < hi := by
      rcases Nat.lt_or_ge i hi with h | h
      · exact h
      · have hilt := (Array.getElem?_eq_some_iff.1 hoi).1
        rcases hc with hc | hc
        · omega
        · have := (cut_ready hc hU.cl hir h).1 i0 hi0
          rw [getD_both hun0] at this
          cases this
    have hilo : lo ≤ i := by
      rcases Nat.lt_or_ge i lo with h | h
      · rw [hU.low i h] at hiun; cases hiun
      · exact h
    have hag : ∀ t ∈ oi.looksAt ops, a.tmps[t]? = A.tmps[t]? := by
      intro t ht
      refine hU.agree t (fun j oj hj1 hj hoj hun hd => ?_)
      obtain ⟨_, h2⟩ := segOk_spec hS i oi j oj t hoi hoj hilo hin hj1 hj hd
      obtain ⟨hji, hwf⟩ := h2 ht
      obtain ⟨o', ho', e, he, hb, hon⟩ := Region.waitsFor_spec hwf
      have : o' = oi := Option.some.inj (ho'.symm.trans hoi)
      subst this
      have h3 := hall e he hb
      rw [hon, getD_both hun] at h3
      cases h3
    have he := exec_of_agree (ops := ops) (hsel oi (by
      have := Array.mem_of_getElem? hoi
      simpa using this)) hag
    have hwn := wanted_of_agree (ops := ops) hag
    have hU' : ∀ v, A.put oi.dst v = A → UptoS ops lo hi A (listed.setIfInBounds i true) (a.put oi.dst v) := by
      intro v hv
      refine ⟨hU.cl.set hir, fun k hk => ?_, fun t ht1 ht2 => ?_, by rw [put_defers']; exact hU.dfs, by rw [put_size]; exact hU.sz, fun t ht => ?_⟩
      · rw [getD_set_ne true (by omega)]
        exact hU.low k hk
      · rw [getD_set_ne true (by omega)]
        exact hU.tail t ht1 ht2
      by_cases hd : oi.dst = some t
      · rw [← hv, hd]
        by_cases hlt : t < a.tmps.size
        · have hlt' : t < A.tmps.size := by rw [← hU.sz]; exact hlt
          simp [Act.put, hlt, hlt']
        · have hlt' : ¬ t < A.tmps.size := by rw [← hU.sz]; exact hlt
          simp [Act.put, hlt, hlt']
      · rw [put_get_ne hd]
        refine hU.agree t (fun j oj hj1 hj hoj hun hdj => ?_)
        by_cases hji : j = i
        · subst hji
          have : oj = oi := Option.some.inj (hoj.symm.trans hoi)
          subst this
          exact hd hdj
        · exact ht j oj hj1 hj hoj (by rw [getD_set_ne true (Ne.symm hji)]; exact hun) hdj
    have hun' : unl hi (listed.setIfInBounds i true) = m := by
      have := unl_set hin hiun
      omega
    have hSt := hset i oi hilo hin hoi
    unfold wpOp
    simp only [hoi]
    by_cases hw : Region.wanted oi (yielded ops A.tmps) = true
    · obtain ⟨v, hy, hv⟩ := hSt.1 hw
      rw [hwn, if_pos hw]
      refine .inl ?_
      unfold Oper.wp
      rw [he]
      have hg := hy w hInv
      generalize (execOp A.eval oi).run P w = r at hg
      cases r with
      | halt x w' => exact hg.elim
      | ok nx w' =>
        cases nx <;> simp only [Gives] at hg <;> simp only [Oper.upon]
        case value u =>
          obtain ⟨rfl, hI'⟩ := hg
          exact ih _ _ _ hun' (hU' _ hv) hI'
        case skip =>
          obtain ⟨rfl, hI'⟩ := hg
          exact ih _ _ _ hun' (hU' _ hv) hI'
        case enter f args =>
          refine Calls.mono hg (fun e w'' ⟨hee, hI'⟩ => ?_)
          subst hee
          exact ih _ _ _ hun' (hU' _ hv) hI'
    · have hw' : Region.wanted oi (yielded ops A.tmps) = false := by simpa using hw
      rw [hwn, if_neg hw]
      exact ih _ _ _ hun' (hU' _ (hSt.2 hw')) hInv

/-- The walk over stretches, with the operations of cs between them. -/
def wpP (P : Program) (ops : Array Oper) (Q : Exit → Act → World → Prop) : List Nat → Nat → Act → World → Prop
  | [], lo, a, w => ∀ R : Act → Prop, (∀ A, (∀ w', Below w.heap.size w w' → Q .normal A w') → R A) → wpB P ops (fun w' => Below w.heap.size w w') R (ops.toList.drop lo) a
  | c :: cs, lo, a, w => ∀ R : Act → Prop, (∀ A, (∀ w', Below w.heap.size w w' → ∃ oc, ops[c]? = some oc ∧ oc.guard = none ∧ StepC P oc A (wpP P ops Q cs (c + 1)) ((execOp A.eval oc).run P w')) → R A) →
      wpB P ops (fun w' => Below w.heap.size w w') R ((ops.toList.take c).drop lo) a

def cutsOk (ops : Array Oper) : List Nat → Nat → Bool
  | [], lo => decide (lo ≤ ops.size) && segOk ops lo ops.size
  | c :: cs, lo => decide (lo ≤ c) && decide (c < ops.size) && segOk ops lo c && cutOk ops c && cutsOk ops cs (c + 1)

theorem finL_getD (n m i : Nat) (h : i < n) : (finL n m).getD i true = decide (i < m) := by simp [finL, h]
theorem finL_getD' (n m i : Nat) (h : i < n) : (finL n m).getD i false = decide (i < m) := by simp [finL, h]
theorem finL_size (n m : Nat) : (finL n m).size = n := by simp [finL]
theorem finL_closed (hB : backOk ops = true) (m : Nat) : Closed ops (finL ops.size m) := by
  refine ⟨finL_size _ _, fun j oj hj hl e he hbd => ?_⟩
  have hlt := (Array.getElem?_eq_some_iff.1 hj).1
  have hb := (backOk_spec hB).2 j oj hj e he hbd
  rw [finL_getD' _ _ _ hlt] at hl
  rw [finL_getD' _ _ _ (by omega)]
  simp only [decide_eq_true_eq] at hl ⊢
  omega
theorem finL_unl (n lo hi : Nat) (h1 : lo ≤ hi) (h2 : hi ≤ n) : unl hi (finL n lo) = hi - lo := by
  unfold unl
  have : (List.range hi).countP (fun i => !(finL n lo).getD i true) = (List.range hi).countP (fun i => decide (lo ≤ i)) := by
    apply List.countP_congr
    intro i hi'
    have := List.mem_range.1 hi'
    rw [finL_getD _ _ _ (by omega)]
    by_cases h : i < lo
    · simp [h, Nat.not_le.2 h]
    · simp [h, Nat.not_lt.1 h]
  rw [this]
  clear this
  induction hi with
  | zero => simp
  | succ k ih =>
    rw [List.range_succ, List.countP_append]
    rcases Nat.lt_or_ge k lo with h | h
    · have hz : (List.range k).countP (fun i => decide (lo ≤ i)) = 0 := by
        rw [List.countP_eq_zero]
        intro i hi'
        have := List.mem_range.1 hi'
        simp
        omega
      rw [hz]
      have : ¬ lo ≤ k := by omega
      simp [this]
      omega
    · have := ih h (by omega)
      simp [this, h]
      omega
theorem finL_set (n c : Nat) (hc : c < n) : (finL n c).setIfInBounds c true = finL n (c + 1) := by
  apply Array.ext_getElem?
  intro i
  by_cases hi : c = i
  · subst hi
    rw [Array.getElem?_setIfInBounds]
    simp [finL, hc]
  · rw [Array.getElem?_setIfInBounds_ne hi]
    rcases Nat.lt_or_ge i n with h | h
    · by_cases h1 : i < c
      · have h2 : i < c + 1 := by omega
        simp [finL, h, h1, h2]
      · have h2 : ¬ i < c + 1 := by omega
        simp [finL, h, h1, h2]
    · simp [finL, h]

theorem seg_facts {lo hi : Nat} (hhi : hi ≤ ops.size) (hS : segOk ops lo hi = true) : (((ops.toList.take hi).drop lo).Pairwise fun o o' => ∀ d, o'.dst = some d → o.dst ≠ some d ∧ d ∉ o.looksAt ops) ∧ (∀ o ∈ (ops.toList.take hi).drop lo, ∀ d, o.dst = some d → d ∉ o.looksAt ops) ∧ (∀ o ∈ (ops.toList.take hi).drop lo, ∃ i, lo ≤ i ∧ i < hi ∧ ops[i]? = some o) := by
  have hget : ∀ o ∈ (ops.toList.take hi).drop lo, ∃ i, lo ≤ i ∧ i < hi ∧ ops[i]? = some o := by
    intro o ho
    obtain ⟨i, hi'⟩ := List.getElem?_of_mem ho
    rw [List.getElem?_drop, List.getElem?_take] at hi'
    split at hi'
    · exact ⟨lo + i, by omega, by assumption, by simpa using hi'⟩
    · cases hi'
  refine ⟨?_, ?_, hget⟩
  · rw [List.pairwise_iff_getElem]
    intro i j hi' hj hij d hd
    rw [List.length_drop, List.length_take, Array.length_toList] at hi' hj
    have e1 : ((ops.toList.take hi).drop lo)[i]'(by rw [List.length_drop, List.length_take, Array.length_toList]; omega) = ops[lo + i]'(by omega) := by simp
    have e2 : ((ops.toList.take hi).drop lo)[j]'(by rw [List.length_drop, List.length_take, Array.length_toList]; omega) = ops[lo + j]'(by omega) := by simp
    rw [e2] at hd
    rw [e1]
    have := segOk_spec hS (lo + i) (ops[lo + i]'(by omega)) (lo + j) (ops[lo + j]'(by omega)) d (by simp) (by simp) (by omega) (by omega) (by omega) (by omega) hd
    exact ⟨this.1 (by omega), fun hl => by have := (this.2 hl).1; omega⟩
  · intro o ho d hd hl
    obtain ⟨i, h1, h2, hio⟩ := hget o ho
    have := (segOk_spec hS i o i o d hio hio h1 h2 h1 h2 hd).2 hl
    omega

/-- One stretch, from its walk. -/
theorem phase_run {lo hi : Nat} (hB : backOk ops = true) (hS : segOk ops lo hi = true) (h1 : lo ≤ hi) (hhi : hi ≤ ops.size) (hc : hi = ops.size ∨ cutOk ops hi = true) {K : Act → World → Prop} {a : Act} {w : World}
    (hK : ∀ A w', K A w' → wpAny P .any ops Q (ops.size - hi) (finL ops.size hi) A w')
    (h : ∀ R : Act → Prop, (∀ A, (∀ w', Below w.heap.size w w' → K A w') → R A) → wpB P ops (fun w' => Below w.heap.size w w') R ((ops.toList.take hi).drop lo) a) :
    wpAny P .any ops Q (ops.size - lo) (finL ops.size lo) a w := by
  have h' := h (fun A => ∀ w', Below w.heap.size w w' → K A w') (fun _ h => h)
  obtain ⟨hpw, hown, hget⟩ := seg_facts hhi hS
  obtain ⟨A, hRA, hsz, hdf, hA, hset⟩ := wpB_settles (P := P) (J := fun w' => Below w.heap.size w w') (ops := ops) (backOk_spec hB).1 ((ops.toList.take hi).drop lo) (fun o ho => List.mem_of_mem_take (List.mem_of_mem_drop ho)) hpw hown a h'
  have hmem : ∀ i o, lo ≤ i → i < hi → ops[i]? = some o → o ∈ (ops.toList.take hi).drop lo := fun i o hlo hin ho => by
    refine List.mem_of_getElem? (i := i - lo) ?_
    rw [List.getElem?_drop, List.getElem?_take_of_lt (by omega), show lo + (i - lo) = i by omega]
    simpa using ho
  have := wpAny_phase (P := P) (Inv := fun w' => Below w.heap.size w w') (Q := Q) (A := A) hB hS hhi hc (fun i o hlo hin ho => (hset o (hmem i o hlo hin ho)).inv (fun _ h => h) (fun _ _ h h' => below_step h h')) (fun w' hw' => hK A w' (hRA w' hw')) (hi - lo) (finL ops.size lo) a w (finL_unl _ _ _ h1 hhi)
    ⟨finL_closed hB lo, fun i hi' => by rw [finL_getD _ _ _ (by omega)]; simpa using hi', fun t ht1 ht2 => by rw [finL_getD _ _ _ ht2]; simp; omega, hdf.symm, hsz.symm, fun t ht => (hA t (fun o ho hd => by
      obtain ⟨i, hlo, hin, hio⟩ := hget o ho
      exact ht i o hlo hin hio (by rw [finL_getD _ _ _ (by omega)]; simp; omega) hd)).symm⟩ (Below.refl _ _)
  rw [show ops.size - lo = hi - lo + (ops.size - hi) by omega]
  exact this

theorem wpP_run (hB : backOk ops = true) : ∀ (cs : List Nat) (lo : Nat) (a : Act) (w : World), cutsOk ops cs lo = true → wpP P ops Q cs lo a w → wpAny P .any ops Q (ops.size - lo) (finL ops.size lo) a w
  | [], lo, a, w, hC, h => by
    simp only [cutsOk, Bool.and_eq_true, decide_eq_true_eq] at hC
    refine phase_run (K := fun A w' => Q .normal A w') hB hC.2 hC.1 (Nat.le_refl _) (.inl rfl) (fun A w' hq => ?_) (fun R hR => ?_)
    · rw [Nat.sub_self]
      refine ⟨?_, hq⟩
      rw [List.eq_nil_iff_forall_not_mem]
      intro i hi
      obtain ⟨hun, oi, hoi, _⟩ := mem_ready.1 hi
      have hlt := (Array.getElem?_eq_some_iff.1 hoi).1
      rw [finL_getD _ _ _ hlt] at hun
      simp at hun
      omega
    · have := h R hR
      rw [List.take_of_length_le (by simp)]
      exact this
  | c :: cs, lo, a, w, hC, h => by
    simp only [cutsOk, Bool.and_eq_true, decide_eq_true_eq] at hC
    obtain ⟨⟨⟨⟨h1, h2⟩, h3⟩, h4⟩, h5⟩ := hC
    refine phase_run (K := fun A w' => ∃ oc, ops[c]? = some oc ∧ oc.guard = none ∧ StepC P oc A (wpP P ops Q cs (c + 1)) ((execOp A.eval oc).run P w')) hB h3 h1 (by omega) (.inr h4) (fun A w' hq => ?_) h
    obtain ⟨oc, hoc, hgd, hst⟩ := hq
    have hnext := fun a' w'' (hh : wpP P ops Q cs (c + 1) a' w'') => wpP_run hB cs (c + 1) a' w'' h5 hh
    rw [show ops.size - c = (ops.size - (c + 1)) + 1 by omega]
    have hcl := finL_closed hB c
    have hready : c ∈ Region.ready .any ops (finL ops.size c) := by
      refine mem_ready.2 ⟨by rw [finL_getD _ _ _ h2]; simp, oc, hoc, fun e he hbd => ?_⟩
      have := (backOk_spec hB).2 c oc hoc e he hbd
      rw [finL_getD' _ _ _ (by omega)]
      simpa using this
    refine ⟨fun h => (by rw [h] at hready; cases hready), fun i hi => ?_⟩
    obtain ⟨hun, oi, hoi, _⟩ := mem_ready.1 hi
    have hlt := (Array.getElem?_eq_some_iff.1 hoi).1
    have hic : c ≤ i := by
      rw [finL_getD _ _ _ hlt] at hun
      simpa using hun
    have heq : i = c := by
      rcases Nat.lt_or_ge c i with hci | hci
      · have := (cut_ready h4 hcl hi hic).2 hci
        rw [finL_getD' _ _ _ h2] at this
        simp at this
      · omega
    subst heq
    rw [finL_set _ _ h2]
    unfold wpOp
    simp only [hoc]
    rw [if_pos (by unfold Region.wanted; simp [hgd])]
    refine .inl ?_
    unfold Oper.wp
    generalize (execOp A.eval oc).run P w' = r at hst
    cases r with
    | halt x w' => exact hst.elim
    | ok nx w' =>
      cases nx <;> simp only [StepC] at hst <;> simp only [Oper.upon]
      case value u => exact hnext _ _ hst
      case skip => exact hnext _ _ hst
      case enter f args =>
        refine Calls.mono hst (fun e w'' ⟨v, hee, hh⟩ => ?_)
        subst hee
        exact hnext _ _ hh

/-- THE RULE. -/
theorem wp_region_ph {l : List Oper} {id : Nat} {a : Act} {w : World} (cs : List Nat) (hm : P.follows .mixedOrders = true) (hB : (backOk l.toArray && cutsOk l.toArray cs 0) = true) (h : wpP P l.toArray Q cs 0 a w.drew) : (Code.region id l.toArray true).wp P Q a w := by
  simp only [Bool.and_eq_true] at hB
  refine wp_region_any hm ?_
  have := wpP_run (P := P) (Q := Q) hB.1 cs 0 a w.drew hB.2 h
  have e : finL l.toArray.size 0 = Array.replicate l.toArray.size false := by
    apply Array.ext_getElem?
    intro i
    rcases Nat.lt_or_ge i l.length with h | h
    · simp [finL, h]
    · simp [finL, h]
  rw [e, Nat.sub_zero] at this
  exact this

/-- The call between. -/
theorem stepC_call {o : Oper} {V : Act} {K : Act → World → Prop} {f : FuncId} {args : Array Value} {w w' : World} (hr : (execOp V.eval o).run P w = .ok (.enter f args) w') (h : Calls P f args w' (fun e w'' => ∃ v, e = .returned v ∧ K (V.put o.dst v) w'')) : StepC P o V K ((execOp V.eval o).run P w) := by
  rw [hr]
  exact h
theorem wpP_nil {l : List Oper} {lo : Nat} {a : Act} {w : World} (h : ∀ R : Act → Prop, (∀ A, (∀ w', Below w.heap.size w w' → Q .normal A w') → R A) → wpB P l.toArray (fun w' => Below w.heap.size w w') R (l.drop lo) a) : wpP P l.toArray Q [] lo a w := h
theorem wpP_cons {l : List Oper} {c : Nat} {cs : List Nat} {lo : Nat} {a : Act} {w : World} (h : ∀ R : Act → Prop, (∀ A, (∀ w', Below w.heap.size w w' → ∃ oc, l[c]? = some oc ∧ oc.guard = none ∧ StepC P oc A (wpP P l.toArray Q cs (c + 1)) ((execOp A.eval oc).run P w')) → R A) →
      wpB P l.toArray (fun w' => Below w.heap.size w w') R ((l.take c).drop lo) a) : wpP P l.toArray Q (c :: cs) lo a w := fun R hR => h R (fun A hA => hR A (fun w' hw' => by
    obtain ⟨oc, h1, h2, h3⟩ := hA w' hw'
    exact ⟨oc, by simpa using h1, h2, h3⟩))
theorem below_undrew {w w' : World} (h : Below w.drew.heap.size w.drew w') : Below w.heap.size w w' := ⟨h.os, h.tape, h.output, h.size, h.block⟩
end
end
/-! ### Make -/
section
open Go.RowKit

structure ZeroI (P : Program) (t e : TypeId) (zv : Value) (bytes : Nat) : Prop where
  under : P.underlying t = some (.slice e)
  info : ∃ i z, P.info? e = some i ∧ i.zero = some z ∧ z.cells = #[zv] ∧ i.size = 1 ∧ i.bytes = bytes
theorem ZeroI.of {P : Program} {t e : TypeId} {zv : Value} {bytes : Nat} (hu : P.underlying t = some (.slice e)) (h : ((P.info? e).map (fun i => (i.zero.map (fun z => z.cells), i.size, i.bytes))) = some (some #[zv], 1, bytes)) : ZeroI P t e zv bytes := by
  refine ⟨hu, ?_⟩
  cases hi : P.info? e with
  | none => rw [hi] at h; cases h
  | some i =>
    rw [hi] at h
    simp only [Option.map_some, Option.some.injEq, Prod.mk.injEq] at h
    obtain ⟨h1, h2, h3⟩ := h
    cases hz : i.zero with
    | none => rw [hz] at h1; cases h1
    | some z =>
      rw [hz] at h1
      simp only [Option.map_some, Option.some.injEq] at h1
      exact ⟨i, z, rfl, hz, h1, h2, h3⟩

section
variable {P : Program} {t e : TypeId} {zv : Value} {bytes : Nat}
/-- make([]T, n). -/
theorem wp_makeN {wr : World} {ops : Array Oper} {rest : List Oper} {o : Oper} {a : Act} {Q : Exit → Act → World → Prop} {n : Nat} (hZ : ZeroI P t e zv bytes) (hn : n ≤ 1000000000) (hb : bytes ≤ 100000) (hgd : o.guard = none) (l c : Operand) (hop : o.op = Op.makeSlice t l c) (hl : a.eval l = .int .i64 (n : Nat)) (hc : a.eval c = .int .i64 (n : Nat))
    (h : ∀ w', Blk w' wr.heap.size e (Array.replicate n zv) → Below wr.heap.size wr w' → wpList P ops Q rest (a.put o.dst (.slice (some ⟨wr.heap.size, 0, none⟩) n n)) w') : wpList P ops Q (o :: rest) a wr := by
  obtain ⟨i, z, h1, h2, h3, h4, h5⟩ := hZ.info
  refine wpList_make_full wr hgd l c t hop wr.heap.size e i z 1 hZ.under h1 h2 h4 .i64 .i64 _ _ n hl hc rfl rfl ?_ ?_ (Nat.le_refl _) ?_
  · rw [h5]
    have := Nat.mul_le_mul hb hn
    omega
  · simp only [maxLen]; omega
  · intro w' hown hg
    refine h w' ?_ ⟨hg.os, hg.tape, hg.output, hg.size, fun k hk => hg.block k hk (by simp)⟩
    rcases hown.2 with ⟨hv, _⟩ | ⟨g, cap, cur, hv, _, hbk, _, _, hcs, hcur⟩
    · cases hv
    · injection hv with h6 h7 h8
      injection h6 with h6
      injection h6 with h6
      subst h6 h8
      rw [Nat.mul_one] at hcs hcur
      rw [h3, toList_madeCells_one, List.take_of_length_le (by simp [hcs])] at hcur
      unfold Blk
      rw [hbk]
      congr 2
      apply Array.ext'
      rw [hcur, Array.toList_replicate]
end

/-- append(s, x), one element of one cell, within a block that is known whole and has room. -/
theorem wp_append_in {P : Program} {t e : TypeId} {bytes : Nat} {wr : World} {ops : Array Oper} {rest : List Oper} {o : Oper} {a : Act} {Q : Exit → Act → World → Prop} {g k cap : Nat} {cs : Array Value} {u : Value} (hI : ElemI P t e 1 bytes) (hblk : Blk wr g e cs) (hk : k < cs.size) (hcap : k < cap) (h1 : u.oneCell' = true)
    (hgd : o.guard = none) (s x : Operand) (ho : o.op = .call { callee := .builtin .append, args := #[s, x], argTypes := #[t, t] }) (hs : a.eval s = .slice (some ⟨g, 0, none⟩) k cap) (hx : a.eval x = .slice (some ⟨wr.heap.size, 0, none⟩) 1 1)
    (h : wpList P ops Q rest (a.put o.dst (.slice (some ⟨g, 0, none⟩) (k + 1) cap)) ((wr.alloc (.cells #[u] e)).setCell ⟨g, k, none⟩ u)) : wpList P ops Q (o :: rest) a (wr.alloc (.cells #[u] e)) := by
  obtain ⟨i, z, hi, hz, h2, h3, h4⟩ := hI.info
  refine wpList_plain hgd fun K' hK' => ?_
  have hb2 := hblk.alloc (.cells #[u] e)
  have hrun := run_append_room_cells (P := P) (wr.alloc (.cells #[u] e)) t o.type e i hI.under hi g 0 k cap ⟨wr.heap.size, 0, none⟩ 1 1 [u] (by simp [h2]) (by
    intro j v hj
    have hj0 : j = 0 := by
      have := (List.getElem?_eq_some_iff.1 hj).1
      simp at this
      exact this
    subst hj0
    have := (Blk.new wr e #[u]).cell 0
    rw [Addr.add_lit]
    exact this.trans (by simpa using hj)) (by simpa using h1) (by omega) (by
    intro j hj
    simp at hj
    subst hj
    rw [h2, hb2.cell]
    simp [hk]) (by
    intro j _
    exact hb2.frozen _)
  unfold Oper.wp
  simp only [execOp, ho, resolve, invoke, builtin, Sem.run_bind, Sem.run_pure, Result.andThen_ok, List.map_toArray, List.map_cons, List.map_nil, hs, hx, hrun]
  have e1 : (wr.alloc (.cells #[u] e)).setCells g (0 + k * i.size) [u] = (wr.alloc (.cells #[u] e)).setCell ⟨g, k, none⟩ u := by
    rw [h2]
    simp [World.setCells]
  rw [e1]
  exact hK' _ _ h
end
/-! ### Agr -/
section
open Go.RowKit

/-- What W has is in wr as it was, but for the blocks of S. -/
structure Agr (W wr : World) (S : List Nat) : Prop where
  os : wr.os = W.os
  tape : wr.tape = W.tape
  output : wr.output = W.output
  size : W.heap.size ≤ wr.heap.size
  block : ∀ b, b < W.heap.size → b ∉ S → wr.heap[b]? = W.heap[b]?

section
variable {W wr w' : World} {S S' : List Nat}
theorem Agr.refl (W : World) (S : List Nat) : Agr W W S := ⟨rfl, rfl, rfl, Nat.le_refl _, fun _ _ _ => rfl⟩
theorem Agr.trans (h : Agr W wr S) (h' : Agr wr w' S') (hs : ∀ b ∈ S', b ∈ S) : Agr W w' S :=
  ⟨h'.os.trans h.os, h'.tape.trans h.tape, h'.output.trans h.output, Nat.le_trans h.size h'.size, fun b hb hS => (h'.block b (Nat.lt_of_lt_of_le hb h.size) (fun h1 => hS (hs b h1))).trans (h.block b hb hS)⟩
theorem Agr.of_below (h : Below W.heap.size W wr) : Agr W wr S := ⟨h.os, h.tape, h.output, h.size, fun b hb _ => h.block b hb⟩
theorem Agr.later (h : Agr W wr S) (hb : Below wr.heap.size wr w') : Agr W w' S := h.trans (Agr.of_below (S := []) hb) (fun _ h => by cases h)
theorem Agr.set (h : Agr W wr S) {g i : Nat} {u : Value} (hg : g ∈ S) : Agr W (wr.setCell ⟨g, i, none⟩ u) S :=
  ⟨h.os, h.tape, h.output, by simpa using h.size, fun b hb hS => (Below.heap_setCell wr ⟨g, i, none⟩ u b (fun e => hS (e ▸ hg))).trans (h.block b hb hS)⟩
theorem Agr.alloc (h : Agr W wr S) (o : Obj) : Agr W (wr.alloc o) S := h.later (below_alloc (Below.refl _ _) o)
theorem Agr.cell (h : Agr W wr S) {b i : Nat} {v : Value} (hc : W.cell? ⟨b, i, none⟩ = some v) (hb : b ∉ S) : wr.cell? ⟨b, i, none⟩ = some v := by
  have hlt := cell_lt hc
  exact (World.cell?_of_block (a := ⟨b, i, none⟩) (h.block b hlt hb)).trans hc
theorem Agr.blk (h : Agr W wr S) {g : Nat} {t : TypeId} {cs : Array Value} (hb : Blk W g t cs) (hg : g ∉ S) : Blk wr g t cs := (h.block g hb.lt hg).trans hb
theorem Agr.below {w : World} (h : Agr W wr S) (hb : Below w.heap.size w W) (hS : ∀ b ∈ S, w.heap.size ≤ b) : Below w.heap.size w wr :=
  ⟨h.os.trans hb.os, h.tape.trans hb.tape, h.output.trans hb.output, Nat.le_trans hb.size h.size, fun b hlt => (h.block b (Nat.lt_of_lt_of_le hlt hb.size) (fun hm => by have := hS b hm; omega)).trans (hb.block b hlt)⟩
theorem Agr.mono (h : Agr W wr S) (hs : ∀ b ∈ S, b ∈ S') : Agr W wr S' := ⟨h.os, h.tape, h.output, h.size, fun b hb hS => h.block b hb (fun h1 => hS (hs b h1))⟩
theorem Agr.drewN (h : Agr W wr S) (n : Nat) : Agr W (wr.drewN n) S := h.later (below_drewN (Below.refl _ _) n)
end

/-- A slice of integers, none of whose cells lies in the blocks of S. -/
def IntsS (S : List Nat) (w : World) (o : Option Addr) (l : List Int) : Prop :=
  ∀ i, i < l.length → ∃ b off, o = some ⟨b, off, none⟩ ∧ b ∉ S ∧ w.cell? ⟨b, off + i, none⟩ = some (.int .i64 (l.getD i 0))
theorem IntsS.ints {S : List Nat} {w : World} {o : Option Addr} {l : List Int} (h : IntsS S w o l) : Ints w o l := fun i hi => by
  obtain ⟨b, off, h1, _, h3⟩ := h i hi
  exact ⟨b, off, h1, h3⟩
theorem IntsS.agr {S S' : List Nat} {w w' : World} {o : Option Addr} {l : List Int} (h : IntsS S w o l) (ha : Agr w w' S') (hs : ∀ b ∈ S', b ∈ S) : IntsS S w' o l := fun i hi => by
  obtain ⟨b, off, h1, h2, h3⟩ := h i hi
  exact ⟨b, off, h1, h2, ha.cell h3 (fun h' => h2 (hs b h'))⟩
theorem IntsS.of {S : List Nat} {w : World} {o : Option Addr} {l : List Int} (h : Ints w o l) (hs : ∀ b ∈ S, w.heap.size ≤ b) : IntsS S w o l := fun i hi => by
  obtain ⟨b, off, h1, h3⟩ := h i hi
  exact ⟨b, off, h1, fun hb => by have := hs b hb; have := cell_lt h3; simp only at this; omega, h3⟩

/-- The cells of a row of integers. -/
def intsC (l : List Int) : Array Value := (l.map (Value.int .i64 ·)).toArray
theorem intsC_get {l : List Int} {i : Nat} (h : i < l.length) : (intsC l)[i]? = some (.int .i64 (l.getD i 0)) := by simp [intsC, h]
theorem intsC_set (l : List Int) (i : Nat) (v : Int) : (intsC l).setIfInBounds i (.int .i64 v) = intsC (l.set i v) := by
  apply Array.ext'
  simp [intsC, List.map_set]
theorem intsC_size (l : List Int) : (intsC l).size = l.length := by simp [intsC]
theorem intsC_zero (n : Nat) : Array.replicate n (Value.int .i64 0) = intsC (List.replicate n 0) := by
  apply Array.ext'
  simp [intsC]
theorem Blk.ints {w : World} {g : Nat} {t : TypeId} {l : List Int} (h : Blk w g t (intsC l)) : Ints w (some ⟨g, 0, none⟩) l := fun i hi => ⟨g, 0, rfl, by rw [Nat.zero_add]; exact (h.cell i).trans (intsC_get hi)⟩

/-- append(s, x), one element in a block of its own; where the new row lies. -/
theorem wp_append1O {P : Program} {base : Nat} {wr : World} {t e : TypeId} {size bytes : Nat} {v : Value} {n : Nat} {xs news : List Value} {ops : Array Oper} {rest : List Oper} {o : Oper} {a : Act} {Q : Exit → Act → World → Prop} (hI : ElemI P t e size bytes) (hG : wr.ownsRow base e size v n xs) (hbase : base ≤ wr.heap.size)
    (hn : n + 1 ≤ 1000000000) (hb : bytes ≤ 100000) (hlen : news.length = size) (h1 : ∀ u ∈ news, u.oneCell' = true)
    (hgd : o.guard = none) (s x : Operand) (ho : o.op = .call { callee := .builtin .append, args := #[s, x], argTypes := #[t, t] }) (hs : a.eval s = v) {B : Nat} (hB : B = wr.heap.size) (hx : a.eval x = .slice (some ⟨B, 0, none⟩) 1 1)
    (h : ∀ v' w', w'.ownsRow base e size v' (n + 1) (xs ++ news) → (wr.alloc (.cells news.toArray e)).grownBy w' v.ownBlock → (v'.ownBlock = v.ownBlock ∨ v'.ownBlock = some (wr.heap.size + 1)) → wpList P ops Q rest (a.put o.dst v') w') : wpList P ops Q (o :: rest) a (wr.alloc (.cells news.toArray e)) := by
  subst hB
  obtain ⟨i, z, hi, hz, h2, h3, h4⟩ := hI.info
  refine wpList_append_own_at (wr.alloc (.cells news.toArray e)) hgd s x t ho base e i z size bytes hI.under hi hz h2 h3 h4 hI.pos v n xs hs (hG.alloc _) ⟨wr.heap.size, 0, none⟩ 1 1 news hx (by rw [hlen, Nat.one_mul]) ?_ h1 ?_ ?_ ?_ ?_
  · intro j u hj
    have := (Blk.new wr e news.toArray).cell j
    rw [Addr.add_lit, Nat.zero_add]
    exact this.trans (by simpa using hj)
  · simp only [maxLen]; omega
  · have := Nat.mul_le_mul hn hb
    omega
  · rw [World.size_alloc]
    omega
  · intro v' w' hown hgrow _ hat
    exact h v' w' hown hgrow (by rw [World.size_alloc] at hat; exact hat)
end
/-! ### Iter -/
section
open Go.RowKit

def noDefer (ops : Array Oper) : Bool := ops.toList.all fun o => match o.op with | .defer _ => false | _ => true

theorem noDefer_spec {ops : Array Oper} (h : noDefer ops = true) {i : Nat} {o : Oper} (ho : ops[i]? = some o) : ∀ c, o.op ≠ .defer c := by
  intro c e
  unfold noDefer at h
  rw [List.all_eq_true] at h
  have := h o (by have := Array.mem_of_getElem? ho; simpa using this)
  rw [e] at this
  cases this

section
variable {P : Program} {ops : Array Oper} {Q : Exit → Act → World → Prop} {lp n : Nat}

theorem wpOpsIn_of (hnd : noDefer ops = true) (hLO : ¬ LetsOut Q) : ∀ (idx : List Nat) (a : Act) (w : World), wpOps P ops Q idx a w → wpOpsIn (Fence.wide.inRound lp) n P ops Q idx a w := by
  intro idx
  induction idx with
  | nil => exact fun _ _ h => h
  | cons i rest ih =>
    intro a w h
    unfold wpOps at h
    unfold wpOpsIn
    cases ho : ops[i]? with
    | none =>
      simp only [ho] at h ⊢
      exact ih a w h
    | some o =>
      simp only [ho] at h ⊢
      by_cases hw : Region.wanted o (yielded ops a.tmps) = true
      · rw [if_pos hw] at h ⊢
        rcases h with h | ⟨_, h⟩
        · refine ⟨fun _ _ => trivial, ?_⟩
          have es : o.semAt (Fence.wide.inRound lp).round a.eval = execOp a.eval o := Oper.semAt_some lp a.eval o (noDefer_spec hnd ho)
          rw [es]
          unfold Oper.wp at h
          generalize (execOp a.eval o).run P w = r at h ⊢
          cases r with
          | halt x w' => cases x <;> first | exact h | exact h.elim
          | ok nx w' =>
            cases nx <;> simp only [Oper.upon] at h <;> simp only [Oper.uponIn]
            case value v => exact ih _ _ h
            case skip => exact ih _ _ h
            case defer d => exact ih _ _ h
            case enter f args =>
              refine ⟨fun hd => by simp [Fence.wide] at hd, ?_⟩
              refine CallsIn.inRound lp (callsIn_wide.2 (h.mono fun e w'' he => ?_))
              cases e with
              | returned v => exact ih _ _ he
              | panicked c => exact he
              | outgrown => exact he
            case row rw args =>
              refine ⟨fun hd => by simp [Fence.wide] at hd, ?_⟩
              exact fun c cs _ => let ⟨v, w', r, s⟩ := (h.mono fun v w'' he => ih _ _ he) c cs; ⟨v, w', r, stepsIn_wide.2 s⟩
            all_goals exact h.elim
        · exact absurd h hLO
      · rw [if_neg hw] at h ⊢
        exact ⟨fun _ _ => trivial, ih _ _ h⟩

/-- A call met by a plain contract, in the wide fence, outside and inside a round. -/
theorem inCall {f : FuncId} {args : Array Value} {w : World} {R R' : Ending → World → Prop} (h : Calls P f args w R') (hr : ∀ e w', R' e w' → R e w') : Fence.wide.fn f ∧ (Fence.wide.depth.isSome = true → 1 ≤ n) ∧ CallsIn Fence.wide (n - 1) P f args w R :=
  ⟨trivial, fun hd => by simp [Fence.wide] at hd, callsIn_wide.2 (h.mono hr)⟩
theorem inCallR {f : FuncId} {args : Array Value} {w : World} {R R' : Ending → World → Prop} (h : Calls P f args w R') (hr : ∀ e w', R' e w' → R e w') : Fence.wide.fn f ∧ (Fence.wide.depth.isSome = true → 1 ≤ n) ∧ CallsIn (Fence.wide.inRound lp) (n - 1) P f args w R :=
  ⟨trivial, fun hd => by simp [Fence.wide] at hd, CallsIn.inRound lp (callsIn_wide.2 (h.mono hr))⟩

/-- THE RULE of XKitB, in a round of a loop over an iterator. -/
theorem wpIn_region_B {l : List Oper} {id : Nat} {a : Act} {w : World} (m : Nat) (J : World → Prop) (hm : P.follows .mixedOrders = true) (hB : orderOk l.toArray m = true) (hnd : noDefer l.toArray = true) (hLO : ¬ LetsOut Q)
    (hJ : ∀ w w', J w → Below w.heap.size w w' → J w') (h0 : J w.drew) (h' : ∀ R : Act → Prop, (∀ A, (∀ w', J w' → wpList P l.toArray Q (l.drop m) A w') → R A) → wpB P l.toArray J R (l.take m) a) : (Code.region id l.toArray true).wpIn (Fence.wide.inRound lp) n P Q a w :=
  wpIn_region_draw fun t => by
    simp only [Region.schedule, hm, Bool.true_or, if_true]
    exact wpOpsIn_of hnd hLO _ _ _ (wpAny_sound l.toArray.size t _ a _ (wpAny_B m J hB hJ h0 h'))
end
end
end Go.Proofs.Ythgkfdhkmkbioaa
