/- Chapter 37: arguments that came in, opened: slices of passes, of pairs, of bytes. No statement about the program. -/
import Derived.Test.YtmcodendnpjlaaaDoorLaid36
import Derived.Test.YtmcodendnpjlaaaDoorWf37
import Derived.ChangeMaps5
import Derived.Handed
import Derived.Lib.SmallJoins
import Derived.Deep.Slices
import Derived.Deep.Fields
namespace Go.Proofs.YtmcodendnpjlaaaDoor
open Go.ChangeShapes Go.WideShapes Go.ChangeAt Go.RowKit Go.Deep Go.Joins

theorem laidOut : laidOutB Tryd.prog = true := by kernel_rfl
instance : Inhabited Ps := ⟨Ps.zero⟩
theorem len2 {α : Type} : ∀ {l : List α}, l.length = 2 → ∃ a b, l = [a, b]
  | [a, b], _ => ⟨a, b, rfl⟩

section
variable {H : Type} {enc : TypeId × Value → H} {P : Program} {w : World}
theorem weightsEach_mem : ∀ {ts : List TypeId} {l : List (DataW H)} {j : Nat} {t : TypeId} {d : DataW H} {x : Nat}, ts[j]? = some t → l[j]? = some d → x ∈ d.weights P t → x ∈ DataW.weightsEach P ts l
  | [], _, j, _, _, _, h, _, _ => by simp at h
  | t' :: ts, [], j, _, _, _, _, h, _ => by simp at h
  | t' :: ts, d' :: l, 0, t, d, x, h1, h2, hx => by
    simp at h1 h2
    subst h1
    subst h2
    rw [DataW.weightsEach]
    exact List.mem_append_left _ hx
  | t' :: ts, d' :: l, j + 1, t, d, x, h1, h2, hx => by
    rw [DataW.weightsEach]
    exact List.mem_append_right _ (weightsEach_mem (by simpa using h1) (by simpa using h2) hx)
/-- A field that is an int. -/
theorem fld_int {t : TypeId} {n : Nat} {c : Value} {y : DataW H × List MemPlace} {k : IntKind} (ht : P.underlying t = some (.int k)) (h : DataW.trod enc P w 0 (fun _ => true) true n t [c] = some y) : ∃ x : Int, c = .int k x ∧ (Lit.int k x).wf = true := by
  obtain ⟨x, e, _, hw⟩ := DataW.trod_int ht h
  simp at e
  exact ⟨x, e, hw⟩
theorem fld_str {t : TypeId} {n : Nat} {c : Value} {y : DataW H × List MemPlace} (ht : P.underlying t = some .string) (h : DataW.trod enc P w 0 (fun _ => true) true n t [c] = some y) : ∃ s : ByteArray, c = .string s ∧ s.size ≤ maxLen := by
  obtain ⟨s, e, _, hw⟩ := DataW.trod_string ht h
  simp at e
  exact ⟨s, e, hw⟩
/-- A struct of two one-cell fields, in cells. -/
theorem two_fields {e t0 t1 : TypeId} {fs : Array Field} {n : Nat} {cs : List Value} {y : DataW H × List MemPlace} (hs : P.underlying e = some (.struct fs)) (hone : oneCellFields P fs = true) (hC : P.cellsOf e = 2) (hf : fs.map (·.type) = #[t0, t1])
    (h : DataW.trod enc P w 0 (fun _ => true) true n e cs = some y) : ∃ c0 c1 k y0 y1, cs = [c0, c1] ∧ DataW.trod enc P w 0 (fun _ => true) true k t0 [c0] = some y0 ∧ DataW.trod enc P w 0 (fun _ => true) true k t1 [c1] = some y1 ∧ y.1 = .agg [y0.1, y1.1] := by
  obtain ⟨xs, k, _, hy, hlen, hxl, hx⟩ := DataW.trod_struct hs h
  have hsz : fs.size = 2 := by have := congrArg Array.size hf; simpa using this
  rw [hC] at hlen
  rw [hsz] at hxl
  have ht : ∀ j (hj : j < 2), (fs[j]'(by omega)).type = #[t0, t1][j]'(by simpa using hj) := fun j hj => by
    have := congrArg (fun z : Array TypeId => z[j]?) hf
    simp [hsz, hj] at this
    simpa [hj] using this
  obtain ⟨c0, c1, rfl⟩ := len2 hlen
  obtain ⟨y0, y1, rfl⟩ := len2 hxl
  · have g : ∀ j (hj : j < 2), DataW.trod enc P w 0 (fun _ => true) true k (#[t0, t1][j]'(by simpa using hj)) [([c0, c1] : List Value)[j]'(by simpa using hj)] = some (([y0, y1] : List (DataW H × List MemPlace))[j]'(by simpa using hj)) := fun j hj => by
      have hfj : fs[j]? = some (fs[j]'(by omega)) := Array.getElem?_eq_getElem (by omega)
      obtain ⟨ho, hk⟩ := hone_of hone j _ hfj
      have h3 := hx j _ hfj
      rw [ho, hk, List.drop_eq_getElem_cons (by simpa using hj), List.take_succ_cons, List.take_zero, ht j hj] at h3
      exact h3.trans (List.getElem?_eq_getElem (by simpa using hj))
    exact ⟨c0, c1, k, y0, y1, rfl, g 0 (by omega), g 1 (by omega), by rw [hy]; rfl⟩
end

section
variable {H : Type} {enc : TypeId × Value → H} {w : World}
/-- A parameter that is a slice of passes. -/
theorem pssP_of {r : Reach} {b0 : Nat} {v : Value} {d : DataW H} {p : List MemPlace} (hv : Value.okWide Tryd.prog w r b0 22 v) (h : DataW.Trod enc Tryd.prog w 0 (fun _ => true) true 22 v d p) (hw : ∀ x ∈ d.weights Tryd.prog 22, x ≤ reachBytes) :
    ∃ (o : Option Addr) (cap : Nat) (l : List Ps), v = .slice o l.length cap ∧ Pss w o l ∧ l.length ≤ 6000000000000 ∧ (∀ x ∈ l, x.s.size ≤ 9223372036854775807) ∧ l.length ≤ cap := by
  obtain ⟨a', len', cap', rfl⟩ := okWide_slice Tryd.underlying22 hv
  obtain ⟨n, hn⟩ := h
  have hn' : DataW.trod enc Tryd.prog w 0 (fun _ => true) true n 22 [.slice a' len' cap'] = some (d, p) := hn
  rcases open_slice Tryd.underlying22 hn' with ⟨h0, _⟩ | ⟨a, len, cap, m, n', D, Pl, hcs, _, hl, hm, hmm, hy, hx⟩
  · simp only [List.cons.injEq, and_true] at h0
    exact ⟨none, 0, [], h0, fun i hi => by simp at hi, by simp, fun x hx => by simp at hx, by simp⟩
  · simp only [List.cons.injEq, and_true] at hcs
    have hlm : len ≤ m := by rw [hmm]; simp; exact hl
    have hC : Tryd.prog.cellsOf 35 = 2 := by kernel_rfl
    have hd : d = .slice ((List.range len).map D) ((List.range (m - len)).map fun j => D (len + j)) := congrArg Prod.fst hy
    have hx' : ∀ i, i < len → ∃ x : Ps, w.cell? (a.add (i * 2)) = some (.string x.s) ∧ w.cell? (a.add (i * 2 + 1)) = some (.int .i64 x.mn) ∧ x.s.size ≤ maxLen := fun i hi => by
      obtain ⟨cs', h1, h2⟩ := hx i (by omega)
      rw [hC] at h1
      obtain ⟨_, hlen, hcell⟩ := World.cells?_some h1
      obtain ⟨c0, c1, k, y0, y1, rfl, b0, b1, _⟩ := two_fields Tryd.underlying35 (by kernel_rfl) hC (t0 := 9) (t1 := 3) (by simp) h2
      obtain ⟨x0, rfl, h3⟩ := fld_str Tryd.underlying9 b0
      obtain ⟨x1, rfl, _⟩ := fld_int Tryd.underlying3 b1
      refine ⟨⟨x0, x1⟩, ?_, ?_, h3⟩
      · have := hcell 0 (by omega); rw [add_add] at this; simpa using this
      · have := hcell 1 (by omega); rw [add_add] at this; simpa using this
    obtain ⟨f, hf⟩ := choose_lt hx'
    refine ⟨some a, cap, (List.range len).map f, by rw [hcs]; simp, fun i hi => ?_, ?_, fun x hx => ?_, by simpa using hl⟩
    · have hi' : i < len := by simpa using hi
      obtain ⟨b, off, spot⟩ := a
      have hspot : spot = none := by simpa [Addr.add] using World.cell?_spot (hf 0 (by omega)).1
      subst hspot
      refine ⟨b, off, rfl, ?_⟩
      have e : ((List.range len).map f).getD i Ps.zero = f i := by simp [hi']
      rw [e]
      obtain ⟨h0, h1, _⟩ := hf i hi'
      simp only [Addr.add_lit, ← Nat.add_assoc] at h0 h1
      exact ⟨h0, h1⟩
    · have hb : Tryd.prog.bytesOf 35 = 24 := by kernel_rfl
      rw [hd] at hw
      have := hw ((((List.range len).map D).length + ((List.range (m - len)).map fun j => D (len + j)).length) * Tryd.prog.bytesOf 35) (by
        rw [DataW.weights, Tryd.underlying22]
        exact List.mem_cons_self ..)
      rw [hb] at this
      simp [reachBytes] at this ⊢
      omega
    · obtain ⟨i, hi, rfl⟩ := List.mem_map.1 hx
      have := (hf i (List.mem_range.1 hi)).2.2
      simpa [maxLen] using this
/-- A parameter that is a slice of pairs. -/
theorem prsP_of {r : Reach} {b0 : Nat} {v : Value} {d : DataW H} {p : List MemPlace} (hv : Value.okWide Tryd.prog w r b0 23 v) (h : DataW.Trod enc Tryd.prog w 0 (fun _ => true) true 23 v d p) (hw : ∀ x ∈ d.weights Tryd.prog 23, x ≤ reachBytes) :
    ∃ (o : Option Addr) (cap : Nat) (l : List (Int × Int)), v = .slice o l.length cap ∧ Twos w o l ∧ l.length ≤ 9000000000000 := by
  obtain ⟨a', len', cap', rfl⟩ := okWide_slice Tryd.underlying23 hv
  obtain ⟨n, hn⟩ := h
  have hn' : DataW.trod enc Tryd.prog w 0 (fun _ => true) true n 23 [.slice a' len' cap'] = some (d, p) := hn
  rcases open_slice Tryd.underlying23 hn' with ⟨h0, _⟩ | ⟨a, len, cap, m, n', D, Pl, hcs, _, hl, hm, hmm, hy, hx⟩
  · simp only [List.cons.injEq, and_true] at h0
    exact ⟨none, 0, [], h0, fun i hi => by simp at hi, by simp⟩
  · simp only [List.cons.injEq, and_true] at hcs
    have hlm : len ≤ m := by rw [hmm]; simp; exact hl
    have hC : Tryd.prog.cellsOf 48 = 2 := by kernel_rfl
    have hd : d = .slice ((List.range len).map D) ((List.range (m - len)).map fun j => D (len + j)) := congrArg Prod.fst hy
    have hx' : ∀ i, i < len → ∃ x : Int × Int, w.cell? (a.add (i * 2)) = some (.int .i64 x.1) ∧ w.cell? (a.add (i * 2 + 1)) = some (.int .i64 x.2) := fun i hi => by
      obtain ⟨cs', h1, h2⟩ := hx i (by omega)
      rw [hC] at h1
      obtain ⟨_, hlen, hcell⟩ := World.cells?_some h1
      obtain ⟨c0, c1, k, y0, y1, rfl, b0, b1, _⟩ := two_fields Tryd.underlying48 (by kernel_rfl) hC (t0 := 3) (t1 := 3) (by simp) h2
      obtain ⟨x0, rfl, _⟩ := fld_int Tryd.underlying3 b0
      obtain ⟨x1, rfl, _⟩ := fld_int Tryd.underlying3 b1
      refine ⟨⟨x0, x1⟩, ?_, ?_⟩
      · have := hcell 0 (by omega); rw [add_add] at this; simpa using this
      · have := hcell 1 (by omega); rw [add_add] at this; simpa using this
    obtain ⟨f, hf⟩ := choose_lt hx'
    refine ⟨some a, cap, (List.range len).map f, by rw [hcs]; simp, fun i hi => ?_, ?_⟩
    · have hi' : i < len := by simpa using hi
      obtain ⟨b, off, spot⟩ := a
      have hspot : spot = none := by simpa [Addr.add] using World.cell?_spot (hf 0 (by omega)).1
      subst hspot
      refine ⟨b, off, rfl, ?_⟩
      have e : ((List.range len).map f).getD i (0, 0) = f i := by simp [hi']
      rw [e]
      obtain ⟨h0, h1⟩ := hf i hi'
      simp only [Addr.add_lit, ← Nat.add_assoc] at h0 h1
      exact ⟨h0, h1⟩
    · have hb : Tryd.prog.bytesOf 48 = 16 := by kernel_rfl
      rw [hd] at hw
      have := hw ((((List.range len).map D).length + ((List.range (m - len)).map fun j => D (len + j)).length) * Tryd.prog.bytesOf 48) (by
        rw [DataW.weights, Tryd.underlying23]
        exact List.mem_cons_self ..)
      rw [hb] at this
      simp [reachBytes] at this ⊢
      omega
end
end Go.Proofs.YtmcodendnpjlaaaDoor
