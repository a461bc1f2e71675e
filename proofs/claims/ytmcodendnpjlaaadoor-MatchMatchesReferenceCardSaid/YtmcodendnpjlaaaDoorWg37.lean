/- Chapter 37: what the closure of Match finds in memory, and what it leaves. -/
import Derived.Test.YtmcodendnpjlaaaDoorWf37
import Derived.Test.YtmcodendnpjlaaaDoorPlainH37
import Derived.Test.YtmcodendnpjlaaaDoorMap
import Derived.Test.YtmcodendnpjlaaaDoorAgr
import Derived.Test.YtmcodendnpjlaaaDoorMixF
namespace Go.Proofs.YtmcodendnpjlaaaDoor
open Go.RowKit
attribute [local go_sem] Oper.semAt_some

theorem pairT : PairT Tryd.prog 49 52 54 3 := ⟨⟨Tryd.underlying52, by kernel_rfl, by kernel_rfl, by kernel_rfl⟩, Tryd.underlying3, ⟨Tryd.prog.types.size - 1, by kernel_rfl⟩, Tryd.underlying49⟩

def okE (E X : List Ps) (i j : Nat) : Bool := decide ((E.getD i Ps.zero).mn < (X.getD j Ps.zero).mn)
def dE (E X : List Ps) (i j : Nat) : Int := dP (E.getD i Ps.zero) (X.getD j Ps.zero)
theorem dP_le (p q : Ps) : dP p q ≤ 20 := by
  unfold dP
  split
  · rename_i h
    simp only [validS, Bool.and_eq_true, decide_eq_true_eq] at h
    have := E_upper (bs p.s) (bs q.s)
    have h1 := bs_length p.s
    have h2 := bs_length q.s
    omega
  · omega
theorem dE_pos (E X : List Ps) : ∀ i j, 0 ≤ dE E X i j := fun _ _ => dP_pos _ _
/-- The best pairs of the last k entries. -/
def LS (E X : List Ps) (k used : Nat) : Fd := lst (okE E X) (dE E X) E.length X.length k used
def PT (E X : List Ps) (k used t : Nat) : Fd := prt (okE E X) (dE E X) E.length X.length k used t
theorem LS_ok {E X : List Ps} (hE : E.length ≤ 8) (hX : X.length ≤ 8) {k : Nat} (hk : k ≤ E.length) (used : Nat) : FdOk (LS E X k used) := lst_ok (dE_pos E X) hE hX hk used
theorem PT_ok {E X : List Ps} (hE : E.length ≤ 8) (hX : X.length ≤ 8) {k : Nat} (hk : k + 1 ≤ E.length) (used : Nat) {t : Nat} (ht : t ≤ X.length) : FdOk (PT E X k used t) := prt_ok (dE_pos E X) hE hX hk used ht

theorem PT_skip {E X : List Ps} {k used t e : Nat} (he : E.length - (k + 1) = e) (h : (used.testBit t || !okE E X e t) = true) : PT E X k used (t + 1) = PT E X k used t := by
  unfold PT
  rw [prt_succ, he]
  unfold pick
  rw [if_pos h]
theorem PT_pick {E X : List Ps} {k used t e : Nat} (he : E.length - (k + 1) = e) (h1 : used.testBit t = false) (h2 : okE E X e t = true) : PT E X k used (t + 1) = if Fd.less ⟨(e, t) :: (LS E X k (used ||| 1 <<< t)).pairs, (LS E X k (used ||| 1 <<< t)).cost + dE E X e t⟩ (PT E X k used t) then ⟨(e, t) :: (LS E X k (used ||| 1 <<< t)).pairs, (LS E X k (used ||| 1 <<< t)).cost + dE E X e t⟩ else PT E X k used t := by
  unfold PT
  rw [prt_succ, he]
  show pick _ _ _ _ _ _ _ = _
  unfold pick
  rw [if_neg (by rw [h1, h2]; simp)]
  rfl
theorem LS_last (E X : List Ps) (k used : Nat) : LS E X (k + 1) used = PT E X k used X.length := rfl
/-- A value that is what LS says. -/
def Good (E X : List Ps) (w : World) (v : Value) (k used : Nat) : Prop := ∃ o cap, v = fdV o (LS E X k used).pairs.length cap (LS E X k used).cost ∧ Twos w o (toI (LS E X k used).pairs)
/-- The map of what is known. -/
def Known (E X : List Ps) (w : World) (MB N : Nat) : Prop :=
  ∃ f, PMap Tryd.prog 52 w MB N f ∧ ∀ k used, k ≤ E.length → used < 256 → ∀ v, f ((E.length - k : Nat) : Int) ((used : Nat) : Int) = some v → Good E X w v k used

section
variable {w w' : World} {E X : List Ps} {MB N : Nat}
theorem Known.notCells (h : Known E X w MB N) {b i : Nat} {v : Value} (hc : w.cell? ⟨b, i, none⟩ = some v) : b ≠ MB := by
  obtain ⟨f, h1, _⟩ := h
  exact h1.notCells hc rfl
theorem Known.mono (h : Known E X w MB N) {N' : Nat} (hn : N ≤ N') : Known E X w MB N' := by
  obtain ⟨f, h1, h2⟩ := h
  exact ⟨f, h1.mono hn, h2⟩
theorem Twos.agr (hk : Known E X w MB N) (ha : Agr w w' [MB]) {o : Option Addr} {l : List (Int × Int)} (h : Twos w o l) : Twos w' o l := fun i hi => by
  obtain ⟨b, off, ho, c0, c1⟩ := h i hi
  have hne := hk.notCells c0
  exact ⟨b, off, ho, ha.cell c0 (by simpa using hne), ha.cell c1 (by simpa using hne)⟩
theorem Known.later (h : Known E X w MB N) (hb : Below w.heap.size w w') : Known E X w' MB N := by
  obtain ⟨f, h1, h2⟩ := h
  refine ⟨f, h1.later hb, fun k used hk hu v hv => ?_⟩
  obtain ⟨o, cap, e, ht⟩ := h2 k used hk hu v hv
  exact ⟨o, cap, e, ht.later hb⟩
/-- A block that holds a list with its contradiction is not a block of pairs. -/
theorem Twos.apart {o : Option Addr} {l : List (Int × Int)} (h : Twos w o l) {g : Nat} {t : TypeId} {a : Option Addr} {n c : Nat} {y : Int} (hb : Blk w g t #[.slice a n c, .int .i64 y]) (j : Nat) (u : Value) : Twos (w.setCell ⟨g, j, none⟩ u) o l := fun i hi => by
  obtain ⟨b, off, ho, c0, c1⟩ := h i hi
  have hne : b ≠ g := by
    intro e
    subst e
    rw [hb.cell] at c0 c1
    match hk : off + i * 2 with
    | 0 => rw [hk] at c0; simp at c0
    | 1 => rw [hk] at c1; simp at c1
    | k + 2 => rw [hk] at c0; simp at c0
  refine ⟨b, off, ho, ?_, ?_⟩
  · rw [World.cell?_setCell_other _ _ _ _ (fun e => hne (by injection e with e1; exact e1.symm))]; exact c0
  · rw [World.cell?_setCell_other _ _ _ _ (fun e => hne (by injection e with e1; exact e1.symm))]; exact c1
theorem Known.set (h : Known E X w MB N) {g : Nat} {t : TypeId} {a : Option Addr} {n c : Nat} {y : Int} (hb : Blk w g t #[.slice a n c, .int .i64 y]) (j : Nat) (u : Value) : Known E X (w.setCell ⟨g, j, none⟩ u) MB N := by
  have hne := h.notCells (hb.cell 0)
  obtain ⟨f, h1, h2⟩ := h
  refine ⟨f, h1.kept (row := some g) ⟨rfl, rfl, rfl, by simp, fun k hk hn => Below.heap_setCell w ⟨g, j, none⟩ u k (fun e => hn (by rw [e]))⟩ (fun e => hne (by injection e with e; exact e.symm)), fun k used hk hu v hv => ?_⟩
  obtain ⟨o, cap, e, ht⟩ := h2 k used hk hu v hv
  exact ⟨o, cap, e, ht.apart hb j u⟩
theorem agr_grown (hg : w.grownBy w' (some MB)) : Agr w w' [MB] := ⟨hg.os, hg.tape, hg.output, hg.size, fun b hb hn => hg.block b hb (fun e => hn (by injection e with e; simp [e]))⟩

/-- What the closure reads beside. -/
structure Env (w : World) (KB AB XB FB MB : Nat) (oe ox : Option Addr) (ce cx : Nat) (E X : List Ps) : Prop where
  k : w.cell? ⟨KB, 0, none⟩ = some (.map (some MB))
  a : w.cell? ⟨AB, 0, none⟩ = some (.slice oe E.length ce)
  x : w.cell? ⟨XB, 0, none⟩ = some (.slice ox X.length cx)
  f : w.cell? ⟨FB, 0, none⟩ = some (.func (.func 26) #[] #[.pointer (some ⟨KB, 0, none⟩), .pointer (some ⟨AB, 0, none⟩), .pointer (some ⟨XB, 0, none⟩), .pointer (some ⟨FB, 0, none⟩)])
  pe : Pss w oe E
  px : Pss w ox X
  tab : Tab w
  m0 : 0 ≠ MB
variable {KB AB XB FB : Nat} {oe ox : Option Addr} {ce cx : Nat}
theorem Pss.agr (hk : Known E X w MB N) (ha : Agr w w' [MB]) {o : Option Addr} {l : List Ps} (h : Pss w o l) : Pss w' o l := fun i hi => by
  obtain ⟨b, off, ho, c0, c1⟩ := h i hi
  have hne := hk.notCells c0
  exact ⟨b, off, ho, ha.cell c0 (by simpa using hne), ha.cell c1 (by simpa using hne)⟩
theorem Env.agr (h : Env w KB AB XB FB MB oe ox ce cx E X) (hk : Known E X w MB N) (ha : Agr w w' [MB]) : Env w' KB AB XB FB MB oe ox ce cx E X :=
  ⟨ha.cell h.k (by simpa using hk.notCells h.k), ha.cell h.a (by simpa using hk.notCells h.a), ha.cell h.x (by simpa using hk.notCells h.x), ha.cell h.f (by simpa using hk.notCells h.f), h.pe.agr hk ha, h.px.agr hk ha,
    ⟨Nat.lt_of_lt_of_le h.tab.1 ha.size, by obtain ⟨t, fr, h2⟩ := h.tab.2; exact ⟨t, fr, (ha.block 0 h.tab.1 (by simpa using h.m0)).trans h2⟩⟩, h.m0⟩
end

/-- How far a call of the closure has come. -/
structure LW (w wr : World) (KB AB XB FB MB : Nat) (oe ox : Option Addr) (ce cx : Nat) (E X : List Ps) (N : Nat) : Prop where
  env : Env w KB AB XB FB MB oe ox ce cx E X
  kn0 : ∃ N0, Known E X w MB N0
  kn : Known E X wr MB N
  agr : Agr w wr [MB]
section
variable {w wr w' : World} {KB AB XB FB MB : Nat} {oe ox : Option Addr} {ce cx : Nat} {E X : List Ps} {N N' : Nat}
theorem LW.new (h : Env w KB AB XB FB MB oe ox ce cx E X) (hk : Known E X w MB N) : LW w w KB AB XB FB MB oe ox ce cx E X N := ⟨h, ⟨N, hk⟩, hk, Agr.refl _ _⟩
theorem LW.here (h : LW w wr KB AB XB FB MB oe ox ce cx E X N) : Env wr KB AB XB FB MB oe ox ce cx E X := by
  obtain ⟨N0, hk⟩ := h.kn0
  exact h.env.agr hk h.agr
theorem LW.later (h : LW w wr KB AB XB FB MB oe ox ce cx E X N) (hb : Below wr.heap.size wr w') : LW w w' KB AB XB FB MB oe ox ce cx E X N := ⟨h.env, h.kn0, h.kn.later hb, h.agr.later hb⟩
theorem LW.set (h : LW w wr KB AB XB FB MB oe ox ce cx E X N) {g : Nat} {t : TypeId} {a : Option Addr} {n c : Nat} {y : Int} (hb : Blk wr g t #[.slice a n c, .int .i64 y]) (hg : w.heap.size ≤ g) (j : Nat) (u : Value) : LW w (wr.setCell ⟨g, j, none⟩ u) KB AB XB FB MB oe ox ce cx E X N :=
  ⟨h.env, h.kn0, h.kn.set hb j u, ⟨h.agr.os, h.agr.tape, h.agr.output, by simpa using h.agr.size, fun b hb hS => (Below.heap_setCell wr ⟨g, j, none⟩ u b (fun e => by simp only at e; omega)).trans (h.agr.block b hb hS)⟩⟩
/-- Both cells. -/
theorem LW.set2 (h : LW w wr KB AB XB FB MB oe ox ce cx E X N) {g : Nat} {t : TypeId} {a a' : Option Addr} {n c n' c' : Nat} {y y' : Int} (hb : Blk wr g t #[.slice a n c, .int .i64 y]) (hg : w.heap.size ≤ g) : LW w ((wr.setCell ⟨g, 0, none⟩ (.slice a' n' c')).setCell ⟨g, 1, none⟩ (.int .i64 y')) KB AB XB FB MB oe ox ce cx E X N ∧ Blk ((wr.setCell ⟨g, 0, none⟩ (.slice a' n' c')).setCell ⟨g, 1, none⟩ (.int .i64 y')) g t #[.slice a' n' c', .int .i64 y'] ∧
    (∀ {o : Option Addr} {l : List (Int × Int)}, Twos wr o l → Twos ((wr.setCell ⟨g, 0, none⟩ (.slice a' n' c')).setCell ⟨g, 1, none⟩ (.int .i64 y')) o l) ∧
    (∀ {g2 : Nat} {t2 : TypeId} {cs : Array Value}, g2 ≠ g → Blk wr g2 t2 cs → Blk ((wr.setCell ⟨g, 0, none⟩ (.slice a' n' c')).setCell ⟨g, 1, none⟩ (.int .i64 y')) g2 t2 cs) := by
  have h1 : Blk (wr.setCell ⟨g, 0, none⟩ (.slice a' n' c')) g t #[.slice a' n' c', .int .i64 y] := by simpa using hb.set 0 (.slice a' n' c')
  exact ⟨(h.set hb hg 0 _).set h1 hg 1 _, by simpa using h1.set 1 (.int .i64 y'), fun ht => (ht.apart hb 0 _).apart h1 1 _, fun hn hb2 => (hb2.other (p := ⟨g, 0, none⟩) hn _).other (p := ⟨g, 1, none⟩) hn _⟩
theorem LW.set1 (h : LW w wr KB AB XB FB MB oe ox ce cx E X N) {g : Nat} {t : TypeId} {a : Option Addr} {n c : Nat} {y y' : Int} (hb : Blk wr g t #[.slice a n c, .int .i64 y]) (hg : w.heap.size ≤ g) : LW w (wr.setCell ⟨g, 1, none⟩ (.int .i64 y')) KB AB XB FB MB oe ox ce cx E X N ∧ Blk (wr.setCell ⟨g, 1, none⟩ (.int .i64 y')) g t #[.slice a n c, .int .i64 y'] ∧
    (∀ {o : Option Addr} {l : List (Int × Int)}, Twos wr o l → Twos (wr.setCell ⟨g, 1, none⟩ (.int .i64 y')) o l) ∧
    (∀ {g2 : Nat} {t2 : TypeId} {cs : Array Value}, g2 ≠ g → Blk wr g2 t2 cs → Blk (wr.setCell ⟨g, 1, none⟩ (.int .i64 y')) g2 t2 cs) :=
  ⟨h.set hb hg 1 _, by simpa using hb.set 1 (.int .i64 y'), fun ht => ht.apart hb 1 _, fun hn hb2 => hb2.other (p := ⟨g, 1, none⟩) hn _⟩

/-- What a call of the closure leaves. -/
def LOut (E X : List Ps) (MB N k used : Nat) (w : World) (e : Ending) (w' : World) : Prop :=
  ∃ v, e = .returned v ∧ Good E X w' v k used ∧ Known E X w' MB (N + Tn k) ∧ Agr w w' [MB]
theorem LW.call (h : LW w wr KB AB XB FB MB oe ox ce cx E X N) (hk : Known E X w' MB N') (ha : Agr wr w' [MB]) : LW w w' KB AB XB FB MB oe ox ce cx E X N' := ⟨h.env, h.kn0, hk, h.agr.trans ha (fun _ h => h)⟩

/-- The place is looked up. -/
theorem Known.look (h : Known E X w MB N) {k used : Nat} (hk : k ≤ E.length) (hE : E.length ≤ 8) (hu : used < 256) :
    (Instr.lookup 49 (.map (some MB)) (.agg #[.int .i64 ((E.length - k : Nat) : Int), .int .i64 (used : Int)]) true).run Tryd.prog w = .ok (.tuple #[.agg #[.slice none 0 0, .int .i64 0], .bool false]) w ∨
    ∃ o cap, (Instr.lookup 49 (.map (some MB)) (.agg #[.int .i64 ((E.length - k : Nat) : Int), .int .i64 (used : Int)]) true).run Tryd.prog w = .ok (.tuple #[fdV o (LS E X k used).pairs.length cap (LS E X k used).cost, .bool true]) w ∧ Twos w o (toI (LS E X k used).pairs) := by
  obtain ⟨f, h1, h2⟩ := h
  have hl := h1.look_ok pairT (z := .agg #[.slice none 0 0, .int .i64 0]) (by kernel_rfl) (a := ((E.length - k : Nat) : Int)) (c := (used : Int)) ⟨by omega, by omega⟩ ⟨by omega, by omega⟩
  cases hf : f ((E.length - k : Nat) : Int) (used : Int) with
  | none =>
    rw [hf] at hl
    exact .inl hl
  | some v =>
    rw [hf] at hl
    obtain ⟨o, cap, rfl, ht⟩ := h2 k used hk hu v hf
    exact .inr ⟨o, cap, hl, ht⟩
/-- m[place] = what was found. -/
theorem wpList_known {ops : Array Oper} {rest : List Oper} {o : Oper} {act : Act} {Q : Exit → Act → World → Prop} {k used : Nat} {oo : Option Addr} {cap : Nat} {val : Value} (hval : val = fdV oo (LS E X k used).pairs.length cap (LS E X k used).cost) (hk : k ≤ E.length) (hE : E.length ≤ 8) (hu : used < 256)
    (h : Known E X w MB N) (hn : N ≤ 1000000000) (ht : Twos w oo (toI (LS E X k used).pairs)) (hgd : o.guard = none) (m x u : Operand) (hop : o.op = Op.mapUpdate 49 m x u) (hm : act.eval m = .map (some MB)) (hx : act.eval x = .agg #[.int .i64 ((E.length - k : Nat) : Int), .int .i64 (used : Int)]) (hv : act.eval u = val)
    (hK : ∀ w', Known E X w' MB (N + 1) → Agr w w' [MB] → wpList Tryd.prog ops Q rest (act.put o.dst undef) w') : wpList Tryd.prog ops Q (o :: rest) act w := by
  subst hval
  have hk0 := h
  obtain ⟨f, h1, h2⟩ := h
  refine wpList_pstore pairT h1 (by unfold maxLen; omega) (a := ((E.length - k : Nat) : Int)) (c := (used : Int)) ⟨by omega, by omega⟩ ⟨by omega, by omega⟩ hgd m x u hop hm hx hv ?_
  intro w' hm' hg
  have ha := agr_grown hg
  refine hK w' ⟨_, hm', fun k' used' hk' hu' v' hv' => ?_⟩ ha
  unfold putF at hv'
  by_cases he : ((E.length - k' : Nat) : Int) = ((E.length - k : Nat) : Int) ∧ (used' : Int) = (used : Int)
  · rw [if_pos he] at hv'
    obtain rfl : k' = k := by omega
    obtain rfl : used' = used := by omega
    cases hv'
    exact ⟨oo, cap, rfl, Twos.agr hk0 ha ht⟩
  · rw [if_neg he] at hv'
    obtain ⟨o2, cap2, e2, ht2⟩ := h2 k' used' hk' hu' v' hv'
    exact ⟨o2, cap2, e2, Twos.agr hk0 ha ht2⟩
end
end Go.Proofs.YtmcodendnpjlaaaDoor
