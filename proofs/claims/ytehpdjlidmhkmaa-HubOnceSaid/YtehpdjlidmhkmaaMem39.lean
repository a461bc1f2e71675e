/- Chapter 39: rows of messages and of inboxes. No statement about the program. -/
import Derived.Test.YtehpdjlidmhkmaaWg39
import Derived.Test.YtehpdjlidmhkmaaGrowN
import Derived.ArgAppend
import Derived.Laws.AppendOwnNone
namespace Go.Proofs.Ytehpdjlidmhkmaa
open Go.RowKit

theorem elemM : ElemI Try.prog 27 24 3 24 := ElemI.of Try.underlying27 (by kernel_rfl) (by decide)
theorem elemB : ElemI Try.prog 22 42 3 40 := ElemI.of Try.underlying22 (by kernel_rfl) (by decide)
theorem elemI : ElemI Try.prog 34 3 1 8 := ElemI.of Try.underlying34 (by kernel_rfl) (by decide)

/-! ### Rows of three cells an element -/
@[reducible] def msgC (m : Msg) : List Value := [.int .i64 m.f, .int .i64 m.n, .int .i64 m.b]
def flatM (l : List Msg) : List Value := l.flatMap msgC
theorem flatM_append (l l' : List Msg) : flatM (l ++ l') = flatM l ++ flatM l' := by simp [flatM]
theorem flatM_one (m : Msg) : flatM [m] = msgC m := by simp [flatM]
theorem flatM_nil : flatM [] = [] := rfl
theorem flatM_length : ∀ (l : List Msg), (flatM l).length = l.length * 3
  | [] => rfl
  | m :: l => by
    have := flatM_length l
    show (msgC m ++ flatM l).length = _
    simp only [List.length_append, List.length_cons, List.length_nil, this]
    omega
theorem flatM_get : ∀ (l : List Msg) (i : Nat), i < l.length → (flatM l)[i * 3]? = some (.int .i64 (getM l i).f) ∧ (flatM l)[i * 3 + 1]? = some (.int .i64 (getM l i).n) ∧ (flatM l)[i * 3 + 2]? = some (.int .i64 (getM l i).b)
  | [], i, h => by simp at h
  | m :: l, 0, _ => ⟨rfl, rfl, rfl⟩
  | m :: l, i + 1, h => by
    have := flatM_get l i (by simpa using h)
    have e : getM (m :: l) (i + 1) = getM l i := rfl
    rw [e]
    show (msgC m ++ flatM l)[_]? = _ ∧ (msgC m ++ flatM l)[_]? = _ ∧ (msgC m ++ flatM l)[_]? = _
    refine ⟨?_, ?_, ?_⟩
    · rw [List.getElem?_append_right (by simp; omega)]
      simpa [show (i + 1) * 3 - 3 = i * 3 by omega] using this.1
    · rw [List.getElem?_append_right (by simp; omega)]
      simpa [show (i + 1) * 3 + 1 - 3 = i * 3 + 1 by omega] using this.2.1
    · rw [List.getElem?_append_right (by simp; omega)]
      simpa [show (i + 1) * 3 + 2 - 3 = i * 3 + 2 by omega] using this.2.2
theorem msgC_one (m : Msg) : ∀ u ∈ msgC m, u.oneCell' = true := fun u hu => by simp at hu; rcases hu with rfl | rfl | rfl <;> rfl
theorem flatM_one' (l : List Msg) : ∀ u ∈ flatM l, u.oneCell' = true := fun u hu => by
  obtain ⟨m, _, hm⟩ := List.mem_flatMap.1 hu
  exact msgC_one m u hm

/-- The cells of a slice, from its address on. -/
def Cells (w : World) (o : Option Addr) (cs : List Value) : Prop := ∀ j u, cs[j]? = some u → ∃ b off, o = some ⟨b, off, none⟩ ∧ w.cell? ⟨b, off + j, none⟩ = some u
theorem Cells.later {w w' : World} {o : Option Addr} {cs : List Value} (h : Cells w o cs) (hb : Below w.heap.size w w') : Cells w' o cs := fun j u hj => by
  obtain ⟨b, off, ho, hc⟩ := h j u hj
  exact ⟨b, off, ho, cell_kept hb hc⟩
theorem Msgs.cells {w : World} {o : Option Addr} {l : List Msg} (h : Msgs w o l) : Cells w o (flatM l) := fun j u hj => by
  have hl : j < l.length * 3 := by rw [← flatM_length]; exact (List.getElem?_eq_some_iff.1 hj).1
  obtain ⟨b, off, ho, c0, c1, c2⟩ := h (j / 3) (by omega)
  obtain ⟨g0, g1, g2⟩ := flatM_get l (j / 3) (by omega)
  refine ⟨b, off, ho, ?_⟩
  have h3 : j % 3 = 0 ∨ j % 3 = 1 ∨ j % 3 = 2 := by omega
  rcases h3 with h3 | h3 | h3
  · rw [show j / 3 * 3 = j by omega] at g0 c0
    rw [hj] at g0
    rw [c0, ← g0]
  · rw [show j / 3 * 3 + 1 = j by omega] at g1
    rw [show off + j / 3 * 3 + 1 = off + j by omega] at c1
    rw [hj] at g1
    rw [c1, ← g1]
  · rw [show j / 3 * 3 + 2 = j by omega] at g2
    rw [show off + j / 3 * 3 + 2 = off + j by omega] at c2
    rw [hj] at g2
    rw [c2, ← g2]
theorem Row.cells {w2 wr : World} {e : TypeId} {size : Nat} {o : Option Addr} {n cap : Nat} {xs : List Value} (h : Row w2 wr e size (.slice o n cap) n xs) : Cells wr o xs := fun j u hj => by
  obtain ⟨g, ho, _, hc⟩ := h.cell rfl hj
  exact ⟨g, 0, ho, by rw [Nat.zero_add]; exact hc⟩
theorem Cells.msgs {w : World} {o : Option Addr} {l : List Msg} (h : Cells w o (flatM l)) : Msgs w o l := fun i hi => by
  obtain ⟨g0, g1, g2⟩ := flatM_get l i hi
  obtain ⟨b, off, ho, c0⟩ := h _ _ g0
  obtain ⟨b1, off1, ho1, c1⟩ := h _ _ g1
  obtain ⟨b2, off2, ho2, c2⟩ := h _ _ g2
  rw [ho] at ho1 ho2
  injection ho1 with ho1
  injection ho1 with e1 e2
  injection ho2 with ho2
  injection ho2 with e3 e4
  subst e1; subst e2; subst e3; subst e4
  exact ⟨b, off, ho, c0, c1, c2⟩
theorem Row.msgs {w2 wr : World} {e : TypeId} {o : Option Addr} {n cap : Nat} {l : List Msg} (h : Row w2 wr e 3 (.slice o n cap) n (flatM l)) : Msgs wr o l := h.cells.msgs

/-! ### Inboxes with the slices of what waits -/
structure BxA where
  b : Bx
  o : Option Addr
  cap : Nat
@[reducible] def bxC (a : BxA) : List Value := [.int .i64 a.b.f, .int .i64 a.b.x, .slice a.o a.b.ws.length a.cap]
def flatB (l : List BxA) : List Value := l.flatMap bxC
def getA (l : List BxA) (i : Nat) : BxA := l.getD i ⟨Bx.zero, none, 0⟩
structure GoodA (w : World) (a : BxA) : Prop where
  ms : Msgs w a.o a.b.ws
  le : a.b.ws.length ≤ 6000000000000
  cap : a.b.ws.length ≤ a.cap
def Good (w : World) (l : List BxA) : Prop := ∀ a ∈ l, GoodA w a
theorem GoodA.later {w w' : World} {a : BxA} (h : GoodA w a) (hb : Below w.heap.size w w') : GoodA w' a := ⟨h.ms.later hb, h.le, h.cap⟩
theorem Good.later {w w' : World} {l : List BxA} (h : Good w l) (hb : Below w.heap.size w w') : Good w' l := fun a ha => (h a ha).later hb
theorem Good.nil {w : World} : Good w [] := fun _ h => by cases h
theorem Good.append {w : World} {l l' : List BxA} (h : Good w l) (h' : Good w l') : Good w (l ++ l') := fun a ha => (List.mem_append.1 ha).elim (h a) (h' a)
theorem Good.one {w : World} {a : BxA} (h : GoodA w a) : Good w [a] := fun b hb => by simp at hb; subst hb; exact h
def bxs (l : List BxA) : List Bx := l.map (·.b)
theorem bxs_length (l : List BxA) : (bxs l).length = l.length := by simp [bxs]
theorem flatB_append (l l' : List BxA) : flatB (l ++ l') = flatB l ++ flatB l' := by simp [flatB]
theorem flatB_one (m : BxA) : flatB [m] = bxC m := by simp [flatB]
theorem flatB_length : ∀ (l : List BxA), (flatB l).length = l.length * 3
  | [] => rfl
  | m :: l => by
    have := flatB_length l
    show (bxC m ++ flatB l).length = _
    simp only [List.length_append, List.length_cons, List.length_nil, this]
    omega
theorem flatB_get : ∀ (l : List BxA) (i : Nat), i < l.length → (flatB l)[i * 3]? = some (.int .i64 (getA l i).b.f) ∧ (flatB l)[i * 3 + 1]? = some (.int .i64 (getA l i).b.x) ∧ (flatB l)[i * 3 + 2]? = some (.slice (getA l i).o (getA l i).b.ws.length (getA l i).cap)
  | [], i, h => by simp at h
  | m :: l, 0, _ => ⟨rfl, rfl, rfl⟩
  | m :: l, i + 1, h => by
    have := flatB_get l i (by simpa using h)
    have e : getA (m :: l) (i + 1) = getA l i := rfl
    rw [e]
    show (bxC m ++ flatB l)[_]? = _ ∧ (bxC m ++ flatB l)[_]? = _ ∧ (bxC m ++ flatB l)[_]? = _
    refine ⟨?_, ?_, ?_⟩
    · rw [List.getElem?_append_right (by simp; omega)]
      simpa [show (i + 1) * 3 - 3 = i * 3 by omega] using this.1
    · rw [List.getElem?_append_right (by simp; omega)]
      simpa [show (i + 1) * 3 + 1 - 3 = i * 3 + 1 by omega] using this.2.1
    · rw [List.getElem?_append_right (by simp; omega)]
      simpa [show (i + 1) * 3 + 2 - 3 = i * 3 + 2 by omega] using this.2.2
theorem bxC_one (m : BxA) : ∀ u ∈ bxC m, u.oneCell' = true := fun u hu => by simp at hu; rcases hu with rfl | rfl | rfl <;> rfl
theorem flatB_one' (l : List BxA) : ∀ u ∈ flatB l, u.oneCell' = true := fun u hu => by
  obtain ⟨m, _, hm⟩ := List.mem_flatMap.1 hu
  exact bxC_one m u hm
theorem getA_mem {l : List BxA} {i : Nat} (h : i < l.length) : getA l i ∈ l := by
  have : getA l i = l[i] := by simp [getA, h]
  rw [this]
  exact List.getElem_mem h
theorem getB_bxs {l : List BxA} {i : Nat} (h : i < l.length) : getB (bxs l) i = (getA l i).b := by simp [getB, bxs, getA, h]

theorem Cells.bxs {w : World} {o : Option Addr} {l : List BxA} (h : Cells w o (flatB l)) (hg : Good w l) : Bxs w o (bxs l) := fun i hi => by
  rw [bxs_length] at hi
  obtain ⟨g0, g1, g2⟩ := flatB_get l i hi
  obtain ⟨b, off, ho, c0⟩ := h _ _ g0
  obtain ⟨b1, off1, ho1, c1⟩ := h _ _ g1
  obtain ⟨b2, off2, ho2, c2⟩ := h _ _ g2
  rw [ho] at ho1 ho2
  injection ho1 with ho1
  injection ho1 with e1 e2
  injection ho2 with ho2
  injection ho2 with e3 e4
  subst e1; subst e2; subst e3; subst e4
  have hga := hg _ (getA_mem hi)
  rw [getB_bxs hi]
  exact ⟨b, off, ho, (getA l i).o, (getA l i).cap, hga.le, hga.cap, hga.ms, c0, c1, c2⟩
/-- A slice of inboxes, opened. -/
theorem Bxs.open {w : World} {o : Option Addr} {l : List Bx} (h : Bxs w o l) : ∃ ls, Go.Proofs.Ytehpdjlidmhkmaa.bxs ls = l ∧ Good w ls ∧ Cells w o (flatB ls) := by
  have key : ∀ k, k ≤ l.length → ∃ ls, Go.Proofs.Ytehpdjlidmhkmaa.bxs ls = l.take k ∧ Good w ls ∧ Cells w o (flatB ls) := by
    intro k
    induction k with
    | zero => exact fun _ => ⟨[], rfl, Good.nil, fun j u hj => by simp [flatB] at hj⟩
    | succ k ih =>
      intro hk
      obtain ⟨ls, h1, h2, h3⟩ := ih (by omega)
      obtain ⟨b, off, ho, oo, cap, k1, k2, k3, c0, c1, c2⟩ := h k (by omega)
      have hlen : ls.length = k := by
        have := congrArg List.length h1
        rw [bxs_length, List.length_take] at this
        omega
      refine ⟨ls ++ [⟨getB l k, oo, cap⟩], ?_, h2.append (Good.one ⟨k3, k1, k2⟩), fun j u hj => ?_⟩
      · rw [List.take_succ_eq_append_getElem (by omega), ← getB_eq (by omega), ← h1]
        simp [Go.Proofs.Ytehpdjlidmhkmaa.bxs]
      · rw [flatB_append, flatB_one] at hj
        rcases Nat.lt_or_ge j (flatB ls).length with hj' | hj'
        · rw [List.getElem?_append_left hj'] at hj
          exact h3 j u hj
        · rw [List.getElem?_append_right hj'] at hj
          rw [flatB_length, hlen] at hj hj'
          refine ⟨b, off, ho, ?_⟩
          have hj3 : j - k * 3 = 0 ∨ j - k * 3 = 1 ∨ j - k * 3 = 2 := by
            have := (List.getElem?_eq_some_iff.1 hj).1
            simp at this
            omega
          rcases hj3 with e | e | e <;> rw [e] at hj
          · have e' : j = k * 3 := by omega
            subst e'
            exact c0.trans (by simpa using hj)
          · have e' : off + j = off + k * 3 + 1 := by omega
            rw [e']
            exact c1.trans (by simpa using hj)
          · have e' : off + j = off + k * 3 + 2 := by omega
            rw [e']
            exact c2.trans (by simpa using hj)
  have := key l.length (Nat.le_refl _)
  rwa [List.take_of_length_le (Nat.le_refl _)] at this
theorem Row.bxs {w2 wr : World} {e : TypeId} {o : Option Addr} {n cap : Nat} {l : List BxA} (h : Row w2 wr e 3 (.slice o n cap) n (flatB l)) (hg : Good wr l) : Bxs wr o (Go.Proofs.Ytehpdjlidmhkmaa.bxs l) := h.cells.bxs hg

theorem wpList_append_none {P : Program} {w : World} {ops : Array Oper} {rest : List Oper} {o : Oper} {a : Act} {Q : Exit → Act → World → Prop} {c : Nat} (hgd : o.guard = none) (s x : Operand) (t : TypeId)
    (ho : o.op = .call { callee := .builtin .append, args := #[s, x], argTypes := #[t, t] })
    (base : Nat) (e : TypeId) (i : TypeInfo) (size : Nat) (ht : P.underlying t = some (.slice e)) (hi : P.info? e = some i)
    (v : Value) (n : Nat) (xs : List Value) (hs : a.eval s = v) (hown : w.ownsRow base e size v n xs) (hx : a.eval x = .slice none 0 c)
    (h : wpList P ops Q rest (a.put o.dst v) w) : wpList P ops Q (o :: rest) a w := by
  refine wpList_plain hgd fun K hK => ?_
  have hrun : (Builtin.append_ #[t, t] o.type #[v, .slice none 0 c]).run P w = .ok v w := by
    rcases hown.2 with ⟨rfl, rfl⟩ | ⟨g, cap, cur, rfl, _, _, hnc, _⟩
    · simp [Builtin.append_, run_underlying ht, sizeOf, typeInfo, hi, Builtin.lenOf, Builtin.firstCells]
    · simp [Builtin.append_, run_underlying ht, sizeOf, typeInfo, hi, Builtin.lenOf, Builtin.firstCells, hnc, storeCells]
  unfold Oper.wp
  simp [execOp, ho, resolve, invoke, builtin, hs, hx, hrun, Result.andThen]
  exact hK _ _ h

/-- append(s, x...), the source whatever it is. -/
theorem wp_appendS {P : Program} {w2 wr : World} {t e : TypeId} {size bytes : Nat} {v : Value} {n : Nat} {xs news : List Value} {ops : Array Oper} {rest : List Oper} {o : Oper} {a : Act} {Q : Exit → Act → World → Prop} {k c : Nat} {ao : Option Addr} (hI : ElemI P t e size bytes) (hG : Row w2 wr e size v n xs)
    (hn : n + k ≤ 1000000000) (hb : bytes ≤ 100000) (hlen : news.length = k * size) (h1 : ∀ u ∈ news, u.oneCell' = true) (hcells : Cells wr ao news)
    (hgd : o.guard = none) (s x : Operand) (ho : o.op = .call { callee := .builtin .append, args := #[s, x], argTypes := #[t, t] }) (hs : a.eval s = v) (hx : a.eval x = .slice ao k c)
    (h : ∀ v' w', Row w2 w' e size v' (n + k) (xs ++ news) → wpList P ops Q rest (a.put o.dst v') w') : wpList P ops Q (o :: rest) a wr := by
  cases ao with
  | none =>
    obtain ⟨i, z, hi, hz, h2, h3, h4⟩ := hI.info
    obtain rfl : news = [] := by
      cases news with
      | nil => rfl
      | cons u us =>
        obtain ⟨_, _, h0, _⟩ := hcells 0 u rfl
        cases h0
    obtain rfl : k = 0 := by
      have := hI.pos
      rcases Nat.eq_zero_or_pos k with h0 | h0
      · exact h0
      · have := Nat.mul_pos h0 this
        simp at hlen
        omega
    refine wpList_append_none hgd s x t ho w2.heap.size e i size hI.under hi v n xs hs hG.own hx ?_
    exact h v wr (hG.cast rfl (by simp))
  | some ad =>
    by_cases hk : k = 0
    · subst hk
      obtain rfl : news = [] := List.eq_nil_of_length_eq_zero (by omega)
      exact wp_appendN hI hG hn hb (by simp) h1 (fun j u hj => by simp at hj) hgd s x ho hs hx h
    · refine wp_appendN hI hG hn hb hlen h1 (fun j u hj => ?_) hgd s x ho hs hx h
      obtain ⟨b, off, ho', hc⟩ := hcells j u hj
      injection ho' with ho'
      subst ho'
      rw [Addr.add_lit]
      exact hc
end Go.Proofs.Ytehpdjlidmhkmaa
