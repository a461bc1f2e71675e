/- Chapter 39: two rows of messages that grow beside inboxes (HubOnce). -/
import Derived.Test.YtehpdjlidmhkmaaWq39
import Derived.Test.YtehpdjlidmhkmaaPlainH39
namespace Go.Proofs.Ytehpdjlidmhkmaa
open Go.RowKit
attribute [local go_sem] Oper.semAt_some

/-- Inboxes none of whose blocks is that of the row v. -/
def BxsA (v : Value) (w : World) (o : Option Addr) (l : List Bx) : Prop := ∃ ls, bxs ls = l ∧ Good w ls ∧ Cells w o (flatB ls) ∧ (∀ p : Addr, o = some p → 0 < l.length → v.ownBlock ≠ some p.block) ∧ ∀ a ∈ ls, ∀ p : Addr, a.o = some p → 0 < a.b.ws.length → v.ownBlock ≠ some p.block
/-- Messages whose block is not that of the row v. -/
def MsgsA (v : Value) (w : World) (o : Option Addr) (l : List Msg) : Prop := Msgs w o l ∧ ∀ p : Addr, o = some p → 0 < l.length → v.ownBlock ≠ some p.block
theorem BxsA.bxs {v : Value} {w : World} {o : Option Addr} {l : List Bx} (h : BxsA v w o l) : Bxs w o l := by
  obtain ⟨ls, rfl, hg, hc, _, _⟩ := h
  exact hc.bxs hg
theorem BxsA.later {v : Value} {w w' : World} {o : Option Addr} {l : List Bx} (h : BxsA v w o l) (hb : Below w.heap.size w w') : BxsA v w' o l := by
  obtain ⟨ls, h1, h2, h3, h4, h5⟩ := h
  exact ⟨ls, h1, h2.later hb, h3.later hb, h4, h5⟩
theorem MsgsA.later {v : Value} {w w' : World} {o : Option Addr} {l : List Msg} (h : MsgsA v w o l) (hb : Below w.heap.size w w') : MsgsA v w' o l := ⟨h.1.later hb, h.2⟩
theorem BxsA.nil (v : Value) (w : World) : BxsA v w none [] := ⟨[], rfl, Good.nil, (fun j u hj => by simp [flatB] at hj), (fun p hp => by cases hp), fun a ha => by cases ha⟩
theorem BxsL.apart {B : Nat} {v : Value} {w : World} {o : Option Addr} {l : List Bx} (h : BxsL B w o l) (hv : ∀ k, v.ownBlock = some k → k < B) : BxsA v w o l := by
  obtain ⟨ls, h1, h2, h3, h4, h5⟩ := h
  exact ⟨ls, h1, h2, h3, fun p hp _ e => (by have := hv _ e; have := h4 p hp; omega), fun a ha p hp hl e => (by have := hv _ e; have := h5 a ha p hp hl; omega)⟩
/-- Cells of another block. -/
theorem Cells.grown {w w' : World} {o : Option Addr} {cs : List Value} {row : Option Nat} (h : Cells w o cs) (hg : w.grownBy w' row) (hne : ∀ p : Addr, o = some p → 0 < cs.length → row ≠ some p.block) : Cells w' o cs := fun j u hj => by
  obtain ⟨b, off, ho, hc⟩ := h j u hj
  have hl := (List.getElem?_eq_some_iff.1 hj).1
  have hk : w'.heap[b]? = w.heap[b]? := hg.block b (cell_lt hc) (fun e => hne _ ho (by omega) e.symm)
  exact ⟨b, off, ho, (World.cell?_of_block (a := ⟨b, _, none⟩) hk).trans hc⟩
theorem Cells.lt {w : World} {o : Option Addr} {cs : List Value} (h : Cells w o cs) (p : Addr) (ho : o = some p) (hl : 0 < cs.length) : p.block < w.heap.size := by
  obtain ⟨b, off, ho', hc⟩ := h 0 _ (List.getElem?_eq_getElem hl)
  rw [ho] at ho'
  injection ho' with ho'
  subst ho'
  exact cell_lt hc
section
variable {v v' u : Value} {w w' : World} {o : Option Addr} {l : List Bx} {ms : List Msg}
theorem BxsA.grown (h : BxsA v w o l) (hg : w.grownBy w' v.ownBlock) : BxsA v w' o l := by
  obtain ⟨ls, h1, h2, h3, h4, h5⟩ := h
  refine ⟨ls, h1, fun a ha => ⟨(h2 a ha).ms.grown hg (fun p hp hl e => h5 a ha p hp hl e.symm), (h2 a ha).le, (h2 a ha).cap⟩, h3.grown hg (fun p hp hl e => h4 p hp ?_ e), h4, h5⟩
  rw [flatB_length] at hl
  rw [← h1, bxs_length]
  omega
theorem BxsA.grown2 (h : BxsA u w o l) (hv : BxsA v w o l) (hg : w.grownBy w' v.ownBlock) : BxsA u w' o l := by
  obtain ⟨ls, h1, h2, h3, h4, h5⟩ := h
  obtain ⟨ls', h1', h2', h3', h4', h5'⟩ := hv
  have hc : Cells w' o (flatB ls) := h3.grown hg (fun p hp hl e => h4' p hp (by rw [flatB_length] at hl; rw [← h1, bxs_length]; omega) e)
  have e : ∀ i, i < ls.length → getA ls i = getA ls' i := fun i hi => by
    have hl : ls.length = ls'.length := by rw [← bxs_length, ← bxs_length, h1, h1']
    obtain ⟨g0, g1, g2⟩ := flatB_get ls i hi
    obtain ⟨k0, k1, k2⟩ := flatB_get ls' i (by omega)
    have hb : (getA ls i).b = (getA ls' i).b := by rw [← getB_bxs hi, ← getB_bxs (by omega), h1, h1']
    obtain ⟨b, off, ho, c2⟩ := h3 _ _ g2
    obtain ⟨b', off', ho', d2⟩ := h3' _ _ k2
    rw [ho] at ho'
    injection ho' with ho'
    injection ho' with e1 e2
    subst e1; subst e2
    rw [c2] at d2
    injection d2 with d2
    injection d2 with d2 d3 d4
    generalize getA ls i = a at *
    generalize getA ls' i = a' at *
    cases a; cases a'
    simp_all
  refine ⟨ls, h1, fun a ha => ?_, hc, h4, h5⟩
  obtain ⟨i, hi⟩ := List.getElem?_of_mem ha
  have hlt := (List.getElem?_eq_some_iff.1 hi).1
  have hga : getA ls i = a := by simp [getA, hi]
  have hl : ls.length = ls'.length := by rw [← bxs_length, ← bxs_length, h1, h1']
  have hm : a ∈ ls' := by rw [← hga, e i hlt]; exact getA_mem (by omega)
  exact ⟨(h2 a ha).ms.grown hg (fun p hp hl e => h5' a hm p hp hl e.symm), (h2 a ha).le, (h2 a ha).cap⟩
/-- The row has moved to a new block. -/
theorem BxsA.move (h : BxsA v w o l) (hn : v'.ownBlock = v.ownBlock ∨ ∃ j, v'.ownBlock = some j ∧ w.heap.size ≤ j) : BxsA v' w o l := by
  rcases hn with hn | ⟨j, hj, hs⟩
  · obtain ⟨ls, h1, h2, h3, h4, h5⟩ := h
    exact ⟨ls, h1, h2, h3, by rw [hn]; exact h4, by rw [hn]; exact h5⟩
  · obtain ⟨ls, h1, h2, h3, h4, h5⟩ := h
    refine ⟨ls, h1, h2, h3, fun p hp hl e => ?_, fun a ha p hp hl e => ?_⟩
    · rw [hj] at e
      injection e with e
      have := h3.lt p hp (by rw [flatB_length]; rw [← h1, bxs_length] at hl; omega)
      omega
    · rw [hj] at e
      injection e with e
      have := (h2 a ha).ms.lt p hp hl
      omega
theorem MsgsA.grown (h : MsgsA v w o ms) (hg : w.grownBy w' v.ownBlock) : MsgsA v w' o ms := ⟨h.1.grown hg (fun p hp hl e => h.2 p hp hl e.symm), h.2⟩
theorem MsgsA.grown2 (h : MsgsA u w o ms) (hv : MsgsA v w o ms) (hg : w.grownBy w' v.ownBlock) : MsgsA u w' o ms := ⟨(hv.grown hg).1, h.2⟩
theorem MsgsA.move (h : MsgsA v w o ms) (hn : v'.ownBlock = v.ownBlock ∨ ∃ j, v'.ownBlock = some j ∧ w.heap.size ≤ j) : MsgsA v' w o ms := by
  rcases hn with hn | ⟨j, hj, hs⟩
  · exact ⟨h.1, by rw [hn]; exact h.2⟩
  · refine ⟨h.1, fun p hp hl e => ?_⟩
    rw [hj] at e
    injection e with e
    have := h.1.lt p hp hl
    omega
end

/-- Both rows, the inboxes, and what is handed over. -/
structure OnSt (W wr : World) (vT vO : Value) (T O : List Msg) (oB : Option Addr) (LB : List Bx) (oX : Option Addr) (LX : List Msg) : Prop where
  rt : Row W wr 24 3 vT T.length (flatM T)
  ro : Row W wr 24 3 vO O.length (flatM O)
  dis : ∀ k, vT.ownBlock = some k → vO.ownBlock = some k → False
  bt : BxsA vT wr oB LB
  bo : BxsA vO wr oB LB
  mt : MsgsA vT wr oX LX
  mo : MsgsA vO wr oX LX
section
variable {W wr W1 w' : World} {vT vO v' : Value} {T O : List Msg} {oB oX : Option Addr} {LB : List Bx} {LX : List Msg} {m : Msg}
theorem OnSt.later (h : OnSt W wr vT vO T O oB LB oX LX) (hb : Below wr.heap.size wr w') : OnSt W w' vT vO T O oB LB oX LX :=
  ⟨h.rt.later hb, h.ro.later hb, h.dis, h.bt.later hb, h.bo.later hb, h.mt.later hb, h.mo.later hb⟩
theorem Row.beside {e : TypeId} {u v : Value} {n k : Nat} {xs ys : List Value} (h : Row W wr e 3 u n xs) (hv : Row W wr e 3 v k ys) (hd : ∀ j, v.ownBlock = some j → u.ownBlock = some j → False) (hg : wr.grownBy w' v.ownBlock) : Row W w' e 3 u n xs := by
  refine ⟨h.own.kept (row := v.ownBlock) hg ?_, h.below.grown hg h.below.size (fun k hk => (hv.own.lt k hk).1)⟩
  cases hu : u.ownBlock with
  | none => exact .inl rfl
  | some j => exact .inr (fun e => hd j e.symm hu)
/-- taken = append(taken, m). -/
theorem OnSt.pushT (h : OnSt W wr vT vO T O oB LB oX LX) (hW : Below wr.heap.size wr W1) (hr : Row W w' 24 3 v' (T.length + 1) (flatM T ++ msgC m)) (hg : W1.grownBy w' vT.ownBlock) (hn : v'.ownBlock = vT.ownBlock ∨ v'.ownBlock = some W1.heap.size) : OnSt W w' v' vO (T ++ [m]) O oB LB oX LX := by
  have h1 := h.later hW
  have hn' : v'.ownBlock = vT.ownBlock ∨ ∃ j, v'.ownBlock = some j ∧ W1.heap.size ≤ j := hn.imp id (fun e => ⟨_, e, Nat.le_refl _⟩)
  refine ⟨hr.cast (by simp) (by rw [flatM_append, flatM_one]), h1.ro.beside h1.rt h1.dis hg, fun k hk1 hk2 => ?_, (h1.bt.move hn').grown2 h1.bt hg, h1.bo.grown2 h1.bt hg, (h1.mt.move hn').grown2 h1.mt hg, h1.mo.grown2 h1.mt hg⟩
  rcases hn with hn | hn
  · exact h1.dis k (by rw [← hn]; exact hk1) hk2
  · rw [hn] at hk1
    injection hk1 with hk1
    have := (h1.ro.own.lt k hk2).2
    omega
/-- over = append(over, m). -/
theorem OnSt.pushO (h : OnSt W wr vT vO T O oB LB oX LX) (hW : Below wr.heap.size wr W1) (hr : Row W w' 24 3 v' (O.length + 1) (flatM O ++ msgC m)) (hg : W1.grownBy w' vO.ownBlock) (hn : v'.ownBlock = vO.ownBlock ∨ v'.ownBlock = some W1.heap.size) : OnSt W w' vT v' T (O ++ [m]) oB LB oX LX := by
  have h1 := h.later hW
  have hn' : v'.ownBlock = vO.ownBlock ∨ ∃ j, v'.ownBlock = some j ∧ W1.heap.size ≤ j := hn.imp id (fun e => ⟨_, e, Nat.le_refl _⟩)
  refine ⟨h1.rt.beside h1.ro (fun j hj1 hj2 => h1.dis j hj2 hj1) hg, hr.cast (by simp) (by rw [flatM_append, flatM_one]), fun k hk1 hk2 => ?_, h1.bt.grown2 h1.bo hg, (h1.bo.move hn').grown2 h1.bo hg, h1.mt.grown2 h1.mo hg, (h1.mo.move hn').grown2 h1.mo hg⟩
  rcases hn with hn | hn
  · exact h1.dis k hk1 (by rw [← hn]; exact hk2)
  · rw [hn] at hk2
    injection hk2 with hk2
    have := (h1.rt.own.lt k hk1).2
    omega
/-- What Receive leaves beside the rows. -/
theorem OnSt.recv {LX' : List Msg} {l : List Bx} {o o2 : Option Addr} (h : OnSt W wr vT vO T O oB LB oX LX) (hb : Below wr.heap.size wr w') (h1 : BxsL wr.heap.size w' o l) (h2 : Msgs w' o2 LX') (h3 : ∀ p : Addr, o2 = some p → wr.heap.size ≤ p.block) : OnSt W w' vT vO T O o l o2 LX' := by
  have ht : ∀ k, vT.ownBlock = some k → k < wr.heap.size := fun k e => (h.rt.own.lt k e).2
  have ho : ∀ k, vO.ownBlock = some k → k < wr.heap.size := fun k e => (h.ro.own.lt k e).2
  exact ⟨h.rt.later hb, h.ro.later hb, h.dis, h1.apart ht, h1.apart ho, ⟨h2, fun p hp _ e => (by have := ht _ e; have := h3 p hp; omega)⟩, ⟨h2, fun p hp _ e => (by have := ho _ e; have := h3 p hp; omega)⟩⟩
theorem OnSt.start (W : World) (oX : Option Addr) : OnSt W W (.slice none 0 0) (.slice none 0 0) [] [] none [] oX [] :=
  ⟨Row.nil .., Row.nil .., (fun k h => by cases h), BxsA.nil _ _, BxsA.nil _ _, ⟨fun i hi => (by simp at hi), fun p _ hl => (by simp at hl)⟩, ⟨fun i hi => (by simp at hi), fun p _ hl => (by simp at hl)⟩⟩
/-- What was handed over is not looked at any more. -/
theorem OnSt.forget (h : OnSt W wr vT vO T O oB LB oX LX) : OnSt W wr vT vO T O oB LB none [] :=
  ⟨h.rt, h.ro, h.dis, h.bt, h.bo, ⟨fun i hi => (by simp at hi), fun p hp => (by cases hp)⟩, ⟨fun i hi => (by simp at hi), fun p hp => (by cases hp)⟩⟩
end
end Go.Proofs.Ytehpdjlidmhkmaa
