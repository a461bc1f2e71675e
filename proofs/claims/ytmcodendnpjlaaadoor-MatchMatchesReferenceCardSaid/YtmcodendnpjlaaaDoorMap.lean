/- Maps keyed by pairs of ints, as functions: a block that is a map, looked up and stored into. No statement about the program. -/
import Derived.Test.YtmcodendnpjlaaaDoorKit
import Derived.Maps.Own
import Derived.Maps.OwnSet
import Derived.WideKeyPair
namespace Go.Proofs.YtmcodendnpjlaaaDoor
open Go.RowKit Go.Maps Go.WideMaps

def InR (a : Int) : Prop := -9223372036854775808 ≤ a ∧ a ≤ 9223372036854775807
theorem InR.wf {a : Int} (h : InR a) : (Lit.int .i64 a).wf = true := WalkArith.wf_i64 h

/-- The types of a map with such keys: t the map's, k the key's, e the element's, ie int. -/
structure PairT (P : Program) (t k e ie : TypeId) : Prop where
  arr : ArrKey P k ie 2
  int : P.underlying ie = some (.int .i64)
  sz : ∃ m, P.types.size = m + 1
  map : P.underlying t = some (.map k e)

def pkey (a c : Int) : Lit := .string (keyBytes [.int .i64 a, .int .i64 c])
@[reducible] def pv (a c : Int) : Value := .agg #[.int .i64 a, .int .i64 c]

section
variable {P : Program} {t k e ie : TypeId}
theorem PairT.keyed (T : PairT P t k e ie) : Keyed P k := Keyed.of_law T.arr.law
theorem PairT.key (T : PairT P t k e ie) {a c : Int} (ha : InR a) (hc : InR c) : keyOf P k (pv a c) = some (pkey a c) := keyOf_pair T.arr T.int T.sz ha.wf hc.wf
theorem PairT.inj (T : PairT P t k e ie) {a c a' c' : Int} (ha : InR a) (hc : InR c) (ha' : InR a') (hc' : InR c') (h : pkey a c = pkey a' c') : a = a' ∧ c = c' := by
  have := T.keyed.inj (T.key ha hc) (h ▸ T.key ha' hc')
  simp at this
  exact this

def valE (v : Value) : Option (DataW Value × List MemPlace) := some (.held v, [])

/-- Block b is a map of at most n entries that holds what f says. -/
def PMap (P : Program) (k : TypeId) (w : World) (b n : Nat) (f : Int → Int → Option Value) : Prop :=
  ∃ D, w.ownsMap P k valE b n D ∧ ∀ a c, InR a → InR c → ∀ z, D.atKey (pkey a c) z = (match f a c with | some v => .held v | none => z)

theorem PMap.made (P : Program) (k : TypeId) (w : World) : PMap P k (w.alloc (.map #[] 0)) w.heap.size 0 (fun _ _ => none) :=
  ⟨_, World.ownsMap_made w P k valE, fun _ _ _ _ _ => rfl⟩
theorem PMap.lt {w : World} {b n : Nat} {f : Int → Int → Option Value} (h : PMap P k w b n f) : b < w.heap.size := by
  obtain ⟨D, h1, _⟩ := h
  exact h1.lt
theorem PMap.later {w w' : World} {b n : Nat} {f : Int → Int → Option Value} (h : PMap P k w b n f) (hb : Below w.heap.size w w') : PMap P k w' b n f := by
  obtain ⟨D, h1, h2⟩ := h
  exact ⟨D, h1.kept (row := none) ⟨hb.os, hb.tape, hb.output, hb.size, fun i hi _ => hb.block i hi⟩ (by simp), h2⟩
theorem PMap.kept {w w' : World} {b n : Nat} {f : Int → Int → Option Value} {row : Option Nat} (h : PMap P k w b n f) (hg : w.grownBy w' row) (hne : some b ≠ row) : PMap P k w' b n f := by
  obtain ⟨D, h1, h2⟩ := h
  exact ⟨D, h1.kept hg hne, h2⟩
theorem PMap.notCells {w : World} {b n : Nat} {f : Int → Int → Option Value} (h : PMap P k w b n f) {p : Addr} {v : Value} (hc : w.cell? p = some v) (hp : p.spot = none) : p.block ≠ b := by
  obtain ⟨D, ⟨es, clock, hb, _⟩, _⟩ := h
  intro e
  subst e
  obtain ⟨pb, po, ps⟩ := p
  subst hp
  simp [World.cell?, hb] at hc

theorem PMap.mono {w : World} {b n n' : Nat} {f : Int → Int → Option Value} (h : PMap P k w b n f) (hn : n ≤ n') : PMap P k w b n' f := by
  obtain ⟨D, h1, h2⟩ := h
  exact ⟨D, h1.mono hn, h2⟩

/-- m[k]. -/
theorem PMap.look (T : PairT P t k e ie) {w : World} {b n : Nat} {f : Int → Int → Option Value} (h : PMap P k w b n f) {z : Value} (hz : (zeroValue e).run P w = .ok z w) {a c : Int} (ha : InR a) (hc : InR c) :
    (Instr.lookup t (.map (some b)) (pv a c) false).run P w = .ok ((f a c).getD z) w := by
  obtain ⟨D, h1, h2⟩ := h
  obtain ⟨v, ps, hr, hv⟩ := h1.lookup T.keyed T.map hz (zd := .held z) (zp := []) rfl (T.key ha hc)
  rw [h2 a c ha hc] at hv
  rw [hr]
  cases hf : f a c with
  | none => simp only [hf, valE, Option.some.injEq, Prod.mk.injEq, DataW.held.injEq] at hv; rw [hv.1]; rfl
  | some u => simp only [hf, valE, Option.some.injEq, Prod.mk.injEq, DataW.held.injEq] at hv; rw [hv.1]; rfl
/-- v, ok := m[k]. -/
theorem PMap.look_ok (T : PairT P t k e ie) {w : World} {b n : Nat} {f : Int → Int → Option Value} (h : PMap P k w b n f) {z : Value} (hz : (zeroValue e).run P w = .ok z w) {a c : Int} (ha : InR a) (hc : InR c) :
    (Instr.lookup t (.map (some b)) (pv a c) true).run P w = .ok (.tuple #[(f a c).getD z, .bool (f a c).isSome]) w := by
  obtain ⟨D, h1, h2⟩ := h
  obtain ⟨v, ps, hr, hv⟩ := h1.look_ok T.keyed T.map hz (zd := .held z) (zp := []) rfl (T.key ha hc)
  have h3 := h2 a c ha hc
  rw [h3] at hv
  rw [hr]
  cases hf : f a c with
  | none =>
    simp only [hf, valE, Option.some.injEq, Prod.mk.injEq, DataW.held.injEq] at hv
    rw [Maps.has_false_of_atKey (fun z => by rw [h3, hf]), hv.1]
    rfl
  | some u =>
    simp only [hf, valE, Option.some.injEq, Prod.mk.injEq, DataW.held.injEq] at hv
    rw [Maps.has_true_of_atKey (y := .held u) (fun z => by rw [h3, hf]), hv.1]
    rfl
def putF (f : Int → Int → Option Value) (a c : Int) (v : Value) : Int → Int → Option Value := fun a' c' => if a' = a ∧ c' = c then some v else f a' c'
/-- m[k] = v. -/
theorem PMap.store (T : PairT P t k e ie) {w : World} {b n : Nat} {f : Int → Int → Option Value} (h : PMap P k w b n f) (hn : n < maxLen) {a c : Int} (ha : InR a) (hc : InR c) (v : Value) :
    ∃ w', (Instr.mapUpdate t (.map (some b)) (pv a c) v).run P w = .ok () w' ∧ PMap P k w' b (n + 1) (putF f a c v) ∧ w.grownBy w' (some b) := by
  obtain ⟨D, h1, h2⟩ := h
  obtain ⟨w', hr, ho, hg⟩ := h1.update T.keyed T.map hn (val := v) (d := .held v) (ps := []) (T.key ha hc) rfl
  refine ⟨w', hr, ⟨_, ho, fun a' c' ha' hc' z => ?_⟩, hg⟩
  unfold putF
  by_cases he : a' = a ∧ c' = c
  · obtain ⟨rfl, rfl⟩ := he
    rw [if_pos ⟨rfl, rfl⟩, atKey_put_same h1.isMap (T.keyed.key (T.key ha hc))]
  · rw [if_neg he, atKey_put_other (fun h => he (T.inj ha' hc' ha hc h)), h2 a' c' ha' hc' z]
/-- m[k] = v at the operation. -/
theorem wpList_pstore (T : PairT P t k e ie) {w : World} {ops : Array Oper} {rest : List Oper} {o : Oper} {act : Act} {Q : Exit → Act → World → Prop} {b n : Nat} {f : Int → Int → Option Value} {a c : Int} {v : Value}
    (h : PMap P k w b n f) (hn : n < maxLen) (ha : InR a) (hc : InR c) (hgd : o.guard = none) (m x u : Operand) (hop : o.op = Op.mapUpdate t m x u) (hm : act.eval m = .map (some b)) (hx : act.eval x = pv a c) (hv : act.eval u = v)
    (hK : ∀ w', PMap P k w' b (n + 1) (putF f a c v) → w.grownBy w' (some b) → wpList P ops Q rest (act.put o.dst undef) w') : wpList P ops Q (o :: rest) act w := by
  refine wpList_plain hgd fun K' hK' => ?_
  obtain ⟨w', hrun, r1, r2⟩ := h.store T hn ha hc v
  unfold Oper.wp
  simp [execOp, hop, hm, hx, hv, hrun, Result.andThen]
  exact hK' _ _ (hK w' r1 r2)
end
end Go.Proofs.YtmcodendnpjlaaaDoor
