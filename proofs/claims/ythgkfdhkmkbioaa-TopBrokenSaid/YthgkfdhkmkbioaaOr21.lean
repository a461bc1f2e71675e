/- Arguments that came in, opened: jobs, currents, steps. No statement about the program. -/
import Derived.Test.YthgkfdhkmkbioaaPg21
import Derived.ProofKit
import Derived.OpenShut
import Derived.Lib.SmallJoins
import Derived.Deep.Slices
import Derived.Deep.Fields
namespace Go.Proofs.Ythgkfdhkmkbioaa
open Go.ChangeShapes Go.WideShapes Go.ChangeAt Go.RowKit Go.Deep Go.Joins
set_option maxRecDepth 100000

section
variable {H : Type} {enc : TypeId × Value → H} {P : Program} {w : World}
/-- A slice of elements of m cells each. -/
theorem sl_of {t e : TypeId} {m n : Nat} {v : Value} {y : DataW H × List MemPlace} {α : Type} [Inhabited α] (Q : (Nat → Option Value) → α → Prop) (d : α) (ht : P.underlying t = some (.slice e)) (hc : P.cellsOf e = m) (hm : 0 < m) (hloc : ∀ (g g' : Nat → Option Value) (x : α), (∀ j, j < m → g j = g' j) → Q g x → Q g' x)
    (hQ : ∀ (cs : List Value) (k : Nat) (z : DataW H × List MemPlace), cs.length = m → DataW.trod enc P w 0 (fun _ => true) true k e cs = some z → ∃ x, Q (fun j => cs[j]?) x) (h : DataW.trod enc P w 0 (fun _ => true) true n t [v] = some y) :
    ∃ (o : Option Addr) (cap : Nat) (l : List α), v = .slice o l.length cap ∧ l.length ≤ 9223372036854775807 ∧ ∀ i, i < l.length → ∃ b off, o = some ⟨b, off, none⟩ ∧ Q (fun j => w.cell? ⟨b, off + i * m + j, none⟩) (l.getD i d) := by
  rcases open_slice ht h with ⟨h0, _⟩ | ⟨a, len, cap, m', k, D, Pl, hcs, _, hl, hcap, hmm, _, hx⟩
  · simp only [List.cons.injEq, and_true] at h0
    exact ⟨none, 0, [], h0, by simp, fun i hi => absurd hi (Nat.not_lt_zero _)⟩
  · simp only [List.cons.injEq, and_true] at hcs
    have hlm : len ≤ m' := by rw [hmm]; simp; exact hl
    have hspot : 0 < len → a.spot = none := fun hp => by
      obtain ⟨cs', h1, _⟩ := hx 0 (by omega)
      rw [hc] at h1
      obtain ⟨_, hlen, hcell⟩ := World.cells?_some h1
      have h0 := hcell 0 hm
      rw [List.getElem?_eq_getElem (by omega)] at h0
      obtain ⟨b, off, spot⟩ := a
      simpa [Addr.add] using World.cell?_spot h0
    have key : ∀ i, i < len → ∃ x, Q (fun j => w.cell? (a.add (i * m + j))) x := fun i hi => by
      obtain ⟨cs', h1, h2⟩ := hx i (by omega)
      rw [hc] at h1
      obtain ⟨_, hlen, hcell⟩ := World.cells?_some h1
      obtain ⟨x, hq⟩ := hQ cs' k _ hlen h2
      have hat : ∀ j, j < m → w.cell? (a.add (i * m + j)) = cs'[j]? := fun j hj => by
        rw [← add_add]
        exact hcell j hj
      exact ⟨x, hloc _ _ x (fun j hj => (hat j hj).symm) hq⟩
    obtain ⟨f, hf⟩ := choose_lt key
    refine ⟨some a, cap, (List.range len).map f, by rw [hcs]; simp, by simp [maxLen] at hcap ⊢; omega, fun i hi => ?_⟩
    have hi' : i < len := by simpa using hi
    have h1 := hf i hi'
    have h2 := hspot (by omega)
    obtain ⟨b, off, spot⟩ := a
    dsimp only at h2
    subst h2
    refine ⟨b, off, rfl, ?_⟩
    have e : ((List.range len).map f).getD i d = f i := by simp [List.getD_eq_getElem?_getD, hi']
    rw [e]
    refine hloc _ _ _ (fun j _ => ?_) h1
    rw [Addr.add_lit, Nat.add_assoc]
/-- One cell of a struct. -/
theorem fld_at {fs : Array Field} {cs : List Value} {xs : List (DataW H × List MemPlace)} {n : Nat} (hxl : xs.length = fs.size) (hg : ∀ (i : Nat) (f : Field), fs[i]? = some f → DataW.trod enc P w 0 (fun _ => true) true n f.type ((cs.drop f.offset).take (P.cellsOf f.type)) = xs[i]?) (i : Nat) (f : Field) (hf : fs[i]? = some f) : ∃ z, DataW.trod enc P w 0 (fun _ => true) true n f.type ((cs.drop f.offset).take (P.cellsOf f.type)) = some z := by
  have hi : i < xs.length := by rw [hxl]; exact (Array.getElem?_eq_some_iff.1 hf).1
  exact ⟨xs[i], by rw [hg i f hf, List.getElem?_eq_getElem hi]⟩
end

section
variable {H : Type} {enc : TypeId × Value → H} {w : World}
theorem cInt : Try.prog.cellsOf 3 = 1 := by kernel_rfl
theorem int_at {n : Nat} {c : Value} {z : DataW H × List MemPlace} (h : DataW.trod enc Try.prog w 0 (fun _ => true) true n 3 [c] = some z) : ∃ x : Int, c = .int .i64 x ∧ (Lit.int .i64 x).wf = true := fld_int Try.underlying3 h
instance : Inhabited Jb := ⟨Jb.zero⟩
theorem job_cells {cs : List Value} {n : Nat} {z : DataW H × List MemPlace} (hl : cs.length = 5) (h : DataW.trod enc Try.prog w 0 (fun _ => true) true n 27 cs = some z) : ∃ x : Jb, cs[0]? = some (.int .i64 x.f) ∧ cs[1]? = some (.int .i64 x.t) ∧ cs[2]? = some (.int .i64 x.e) ∧ cs[3]? = some (.int .i64 x.r) ∧ cs[4]? = some (.int .i64 x.k) := by
  obtain ⟨xs, m, _, _, _, hxl, hg⟩ := DataW.trod_struct Try.underlying27 h
  match cs, hl with
  | [c0, c1, c2, c3, c4], _ =>
    obtain ⟨z0, h0⟩ := fld_at hxl hg 0 _ rfl
    try simp only [List.getElem_toArray, List.getElem_cons_zero] at h0
    rw [cInt] at h0
    obtain ⟨x0, q0, _⟩ := int_at (c := c0) h0
    obtain ⟨z1, h1⟩ := fld_at hxl hg 1 _ rfl
    try simp only [List.getElem_toArray, List.getElem_cons_zero, List.getElem_cons_succ] at h1
    rw [cInt] at h1
    obtain ⟨x1, q1, _⟩ := int_at (c := c1) h1
    obtain ⟨z2, h2⟩ := fld_at hxl hg 2 _ rfl
    try simp only [List.getElem_toArray, List.getElem_cons_zero, List.getElem_cons_succ] at h2
    rw [cInt] at h2
    obtain ⟨x2, q2, _⟩ := int_at (c := c2) h2
    obtain ⟨z3, h3⟩ := fld_at hxl hg 3 _ rfl
    try simp only [List.getElem_toArray, List.getElem_cons_zero, List.getElem_cons_succ] at h3
    rw [cInt] at h3
    obtain ⟨x3, q3, _⟩ := int_at (c := c3) h3
    obtain ⟨z4, h4⟩ := fld_at hxl hg 4 _ rfl
    try simp only [List.getElem_toArray, List.getElem_cons_zero, List.getElem_cons_succ] at h4
    rw [cInt] at h4
    obtain ⟨x4, q4, _⟩ := int_at (c := c4) h4
    exact ⟨⟨x0, x1, x2, x3, x4⟩, by rw [q0]; rfl, by rw [q1]; rfl, by rw [q2]; rfl, by rw [q3]; rfl, by rw [q4]; rfl⟩
theorem jobsP_of {r : _root_.Go.Reach} {b0 : Nat} {v : Value} {d : DataW H} {q : List MemPlace} (hv : Value.okWide Try.prog w r b0 22 v) (h : DataW.Trod enc Try.prog w 0 (fun _ => true) true 22 v d q) : ∃ (o : Option Addr) (cap : Nat) (l : List Jb), v = .slice o l.length cap ∧ l.length ≤ 9223372036854775807 ∧ JobsM w o l := by
  obtain ⟨a', len', cap', rfl⟩ := okWide_slice Try.underlying22 hv
  obtain ⟨n, hn⟩ := h
  obtain ⟨o, cap, l, h1, h2, h3⟩ := sl_of (m := 5) (v := .slice a' len' cap') (fun g (x : Jb) => g 0 = some (.int .i64 x.f) ∧ g 1 = some (.int .i64 x.t) ∧ g 2 = some (.int .i64 x.e) ∧ g 3 = some (.int .i64 x.r) ∧ g 4 = some (.int .i64 x.k)) Jb.zero Try.underlying22 (by kernel_rfl) (by decide)
    (fun g g' x hg ⟨a0, a1, a2, a3, a4⟩ => ⟨(hg 0 (by decide)) ▸ a0, (hg 1 (by decide)) ▸ a1, (hg 2 (by decide)) ▸ a2, (hg 3 (by decide)) ▸ a3, (hg 4 (by decide)) ▸ a4⟩) (fun cs k z hl hz => job_cells hl hz) hn
  exact ⟨o, cap, l, h1, h2, fun i hi => by obtain ⟨b, off, ho, c0, c1, c2, c3, c4⟩ := h3 i hi; exact ⟨b, off, ho, (by dsimp only at c0; rw [Nat.add_zero] at c0; exact c0), c1, c2, c3, c4⟩⟩
theorem intP_of {r : _root_.Go.Reach} {b0 : Nat} {v : Value} {d : DataW H} {q : List MemPlace} (hv : Value.okWide Try.prog w r b0 23 v) (h : DataW.Trod enc Try.prog w 0 (fun _ => true) true 23 v d q) : ∃ (o : Option Addr) (cap : Nat) (l : List Int), v = .slice o l.length cap ∧ l.length ≤ 9223372036854775807 ∧ Ints w o l := by
  obtain ⟨a', len', cap', rfl⟩ := okWide_slice Try.underlying23 hv
  obtain ⟨n, hn⟩ := h
  obtain ⟨o, cap, l, h1, h2, h3⟩ := sl_of (m := 1) (v := .slice a' len' cap') (fun g (x : Int) => g 0 = some (.int .i64 x)) 0 Try.underlying23 (by kernel_rfl) (by decide)
    (fun g g' x hg a0 => (hg 0 (by decide)) ▸ a0) (fun cs k z hl hz => by
      match cs, hl with
      | [c], _ =>
        obtain ⟨x, rfl, _⟩ := int_at hz
        exact ⟨x, rfl⟩) hn
  exact ⟨o, cap, l, h1, h2, fun i hi => by obtain ⟨b, off, ho, c0⟩ := h3 i hi; exact ⟨b, off, ho, by simpa using c0⟩⟩
end
end Go.Proofs.Ythgkfdhkmkbioaa