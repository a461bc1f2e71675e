/- Chapter 26: a calendar that came in, opened to cells. -/
import Derived.Test.YtgjnekfmnepjeaaWd26
import Derived.ProofKit
import Derived.OpenShut
import Derived.Lib.SmallJoins
import Derived.Deep.Slices
import Derived.Deep.Fields
namespace Go.Proofs.Ytgjnekfmnepjeaa
open Go.ChangeShapes Go.WideShapes Go.ChangeAt Go.RowKit Go.Deep Go.Joins

theorem own : ownKnob Try.prog.godebug = none := by kernel_rfl
theorem laidOut : laidOutB Try.prog = true := by kernel_rfl

section
variable {H : Type} {enc : TypeId × Value → H} {P : Program} {w : World}

theorem ints_of {t e : TypeId} {n : Nat} {v : Value} {y : DataW H × List MemPlace} (ht : P.underlying t = some (.slice e)) (he : P.underlying e = some (.int .i64)) (hc : P.cellsOf e = 1)
    (h : DataW.trod enc P w 0 (fun _ => true) true n t [v] = some y) : ∃ o cap l, v = .slice o (List.length l) cap ∧ Ints w o l := by
  rcases open_ints ht he hc h with ⟨hcs, _⟩ | ⟨a, len, cap, zs, hcs, _, hl, _, hz, _, hcell, _⟩
  · simp only [List.cons.injEq, and_true] at hcs
    exact ⟨none, 0, [], hcs, Ints.nil⟩
  · simp only [List.cons.injEq, and_true] at hcs
    have hzl : zs.length = cap := by simpa using hz
    have hlen : (zs.take len).length = len := by rw [List.length_take]; omega
    refine ⟨some a, cap, zs.take len, by rw [hlen]; exact hcs, fun i hi => ?_⟩
    rw [hlen] at hi
    obtain ⟨b, off, rfl, hc'⟩ := ints_at hcell (by omega)
    refine ⟨b, off, rfl, ?_⟩
    rw [hc' i (by omega), getD_take_lt _ _ _ _ hi]

theorem twos_of {t e : TypeId} {f0 f1 : Field} {n : Nat} {v : Value} {y : DataW H × List MemPlace} (ht : P.underlying t = some (.slice e)) (he : P.underlying e = some (.struct #[f0, f1]))
    (hone : oneCellFields P #[f0, f1] = true) (hC : P.cellsOf e = 2) (h0 : P.underlying f0.type = some (.int .i64)) (h1 : P.underlying f1.type = some (.int .i64))
    (h : DataW.trod enc P w 0 (fun _ => true) true n t [v] = some y) : ∃ o cap l, v = .slice o (List.length l) cap ∧ Twos w o l := by
  rcases open_slice ht h with ⟨hcs, _⟩ | ⟨a, len, cap, m, fuel, D, Pl, hcs, _, hl, _, hm, _, hi⟩
  · simp only [List.cons.injEq, and_true] at hcs
    exact ⟨none, 0, [], hcs, Twos.nil⟩
  · simp only [List.cons.injEq, and_true] at hcs
    have hmc : m = cap := by simpa using hm
    obtain ⟨o0, k0⟩ := hone_of hone 0 f0 rfl
    obtain ⟨o1, k1⟩ := hone_of hone 1 f1 rfl
    have key : ∀ i, i < m → ∃ x : Int × Int, w.cell? (a.add (i * 2)) = some (.int .i64 x.1) ∧ w.cell? (a.add (i * 2 + 1)) = some (.int .i64 x.2) := by
      intro i him
      obtain ⟨cs', hc, ht'⟩ := hi i him
      rw [hC] at hc
      obtain ⟨y0, y1, fu, _, hln, hy0, hy1⟩ := trod_struct2 he ht'
      obtain ⟨_, hcl, hat⟩ := World.cells?_some hc
      match cs', hcl with
      | [u0, u1], _ =>
        rw [o0, k0] at hy0
        rw [o1, k1] at hy1
        obtain ⟨x0, e0, _, _⟩ := DataW.trod_int h0 hy0
        obtain ⟨x1, e1, _, _⟩ := DataW.trod_int h1 hy1
        simp at e0 e1
        subst e0 e1
        refine ⟨(x0, x1), ?_, ?_⟩
        · have := hat 0 (by omega)
          rw [Addr.add_add, Nat.add_zero] at this
          exact this
        · have := hat 1 (by omega)
          rw [Addr.add_add] at this
          exact this
    have hex : ∀ L, L ≤ m → ∃ l : List (Int × Int), l.length = L ∧ ∀ i, i < L → w.cell? (a.add (i * 2)) = some (.int .i64 (l.getD i (0, 0)).1) ∧ w.cell? (a.add (i * 2 + 1)) = some (.int .i64 (l.getD i (0, 0)).2) := by
      intro L
      induction L with
      | zero => exact fun _ => ⟨[], rfl, fun i hi => absurd hi (Nat.not_lt_zero _)⟩
      | succ k ih =>
        intro hle
        obtain ⟨l, hl, hg⟩ := ih (by omega)
        obtain ⟨x, hx⟩ := key k (by omega)
        refine ⟨l ++ [x], by simp [hl], fun i hi => ?_⟩
        rcases Nat.lt_or_ge i k with hik | hik
        · have := hg i hik
          rw [List.getD_eq_getElem?_getD, List.getElem?_append_left (by omega), ← List.getD_eq_getElem?_getD]
          exact this
        · obtain rfl : i = k := by omega
          rw [List.getD_eq_getElem?_getD, ← hl, List.getElem?_concat_length, hl]
          exact hx
    obtain ⟨l, hll, hg⟩ := hex len (by omega)
    refine ⟨some a, cap, l, by rw [hll]; exact hcs, fun i hi => ?_⟩
    rw [hll] at hi
    obtain ⟨g1, g2⟩ := hg i hi
    obtain ⟨b, off, spot⟩ := a
    have hspot : spot = none := by
      simpa [Addr.add] using World.cell?_spot (hg 0 (by omega)).1
    subst hspot
    rw [add_plain] at g1 g2
    exact ⟨b, off, rfl, g1, by rw [Nat.add_assoc]; exact g2⟩
end

theorem cal_of {H : Type} {enc : TypeId × Value → H} {W : World} {base : Nat} {v : Value} {d : DataW H} {p : List MemPlace} (hv : Value.okWide Try.prog W .any base 25 v)
    (h : DataW.Trod enc Try.prog W 0 (fun _ => true) true 25 v d p) : ∃ (o : Int) (oc oh : Option Addr) (kc kh : Nat) (cs : List (Int × Int)) (hs : List Int), v = calV o oc cs.length kc oh hs.length kh ∧ Twos W oc cs ∧ Ints W oh hs ∧ (Lit.int .i64 o).wf = true := by
  obtain ⟨c0, c1, c2, y0, y1, y2, m, rfl, _, _, h0, h1, h2⟩ := open_agg3 Try.underlying25 (by kernel_rfl) (by kernel_rfl) hv h
  obtain ⟨o, e0, _, wo⟩ := DataW.trod_int Try.underlying3 h0
  simp at e0
  subst e0
  obtain ⟨oc, kc, cs, rfl, hcs⟩ := twos_of Try.underlying22 Try.underlying37 (by kernel_rfl) (by kernel_rfl) Try.underlying3 Try.underlying3 h1
  obtain ⟨oh, kh, hs, rfl, hhs⟩ := ints_of Try.underlying23 Try.underlying3 (by kernel_rfl) h2
  exact ⟨o, oc, oh, kc, kh, cs, hs, rfl, hcs, hhs, wo⟩

end Go.Proofs.Ytgjnekfmnepjeaa
