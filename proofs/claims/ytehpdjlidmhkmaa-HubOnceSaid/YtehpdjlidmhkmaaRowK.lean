/- Arguments that came in, opened: structs of one-cell fields, slices of integers. No statement about the program. -/
import Derived.Test.YtehpdjlidmhkmaaSl
import Derived.Test.YtehpdjlidmhkmaaRows
import Derived.ProofKit
import Derived.OpenShut
import Derived.Lib.SmallJoins
import Derived.Deep.Slices
import Derived.Deep.Fields
namespace Go.Proofs.Ytehpdjlidmhkmaa
open Go.ChangeShapes Go.WideShapes Go.ChangeAt Go.RowKit Go.Deep Go.Joins

theorem own : ownKnob Try.prog.godebug = none := by kernel_rfl
theorem laidOut : laidOutB Try.prog = true := by kernel_rfl

section
variable {H : Type} {enc : TypeId × Value → H} {P : Program} {w : World}

theorem ints_of {t e : TypeId} {n : Nat} {v : Value} {y : DataW H × List MemPlace} (ht : P.underlying t = some (.slice e)) (he : P.underlying e = some (.int .i64)) (hc : P.cellsOf e = 1)
    (h : DataW.trod enc P w 0 (fun _ => true) true n t [v] = some y) : ∃ o cap l, v = .slice o (List.length l) cap ∧ Ints w o l := by
  rcases open_ints ht he hc h with ⟨hcs, _⟩ | ⟨a, len, cap, zs, hcs, _, hl, _, hz, _, hcell, _⟩
  · simp only [List.cons.injEq, and_true] at hcs
    exact ⟨none, 0, [], hcs, Ints.nil⟩
  · simp only [List.cons.injEq, and_true] at hcs
    have hzl : zs.length = cap := by simpa using hz
    have hlen : (zs.take len).length = len := by rw [List.length_take]; omega
    refine ⟨some a, cap, zs.take len, by rw [hlen]; exact hcs, fun i hi => ?_⟩
    rw [hlen] at hi
    obtain ⟨b, off, rfl, hc'⟩ := ints_at hcell (by omega)
    refine ⟨b, off, rfl, ?_⟩
    rw [hc' i (by omega), getD_take_lt _ _ _ _ hi]


/-- A parameter that is a slice of integers. -/
theorem intsP_of {r : Reach} {b0 : Nat} {t e : TypeId} {v : Value} {d : DataW H} {p : List MemPlace} (ht : P.underlying t = some (.slice e)) (he : P.underlying e = some (.int .i64)) (hc : P.cellsOf e = 1)
    (hv : Value.okWide P w r b0 t v) (h : DataW.Trod enc P w 0 (fun _ => true) true t v d p) : ∃ o cap l, v = .slice o (List.length l) cap ∧ Ints w o l := by
  obtain ⟨a, len, cap, rfl⟩ := okWide_slice ht hv
  obtain ⟨n, hn⟩ := h
  exact ints_of ht he hc hn

/-- A struct of one-cell fields, however many, by value. -/
theorem agg_of {r : Reach} {b0 : Nat} {t : TypeId} {fs : Array Field} {v : Value} {d : DataW H} {p : List MemPlace} (hs : P.underlying t = some (.struct fs)) (hone : oneCellFields P fs = true) (hC : P.cellsOf t = fs.size)
    (hv : Value.okWide P w r b0 t v) (h : DataW.Trod enc P w 0 (fun _ => true) true t v d p) :
    ∃ (cs : List Value) (n : Nat), v = .agg cs.toArray ∧ cs.length = fs.size ∧ ∀ (j : Nat) (f : Field), fs[j]? = some f → ∃ c y, cs[j]? = some c ∧ DataW.trod enc P w 0 (fun _ => true) true n f.type [c] = some y := by
  obtain ⟨cs, rfl, hsz⟩ := okWide_struct hs hv
  obtain ⟨fuel, hf⟩ := h
  obtain ⟨ys, n, _, _, hlen, hyl, hg⟩ := DataW.trod_struct hs hf
  refine ⟨cs.toList, n, rfl, by rw [Array.length_toList, hsz, hC], fun j f hj => ?_⟩
  obtain ⟨ho, hk⟩ := hone_of hone j f hj
  have hjl : j < fs.size := (Array.getElem?_eq_some_iff.1 hj).1
  have hjc : j < cs.toList.length := by rw [Array.length_toList, hsz, hC]; exact hjl
  have h1 := hg j f hj
  rw [ho, hk] at h1
  have e : (((Value.agg cs).cells.toList).drop j).take 1 = [cs.toList[j]] := by
    show (cs.toList.drop j).take 1 = _
    rw [List.drop_eq_getElem_cons hjc]
    rfl
  have hy : ys[j]? = some (ys[j]'(by omega)) := List.getElem?_eq_getElem (by omega)
  exact ⟨_, _, List.getElem?_eq_getElem hjc, by rw [← e]; exact h1.trans hy⟩

/-- A field that is an int. -/
theorem fld_int {t : TypeId} {n : Nat} {c : Value} {y : DataW H × List MemPlace} {k : IntKind} (ht : P.underlying t = some (.int k)) (h : DataW.trod enc P w 0 (fun _ => true) true n t [c] = some y) : ∃ x : Int, c = .int k x ∧ (Lit.int k x).wf = true := by
  obtain ⟨x, e, _, hw⟩ := DataW.trod_int ht h
  simp at e
  exact ⟨x, e, hw⟩
end

end Go.Proofs.Ytehpdjlidmhkmaa
