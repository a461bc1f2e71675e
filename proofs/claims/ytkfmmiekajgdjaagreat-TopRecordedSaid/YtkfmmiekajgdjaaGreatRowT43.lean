/- Arguments that came in, opened: a tariff, a calendar, currents. No statement about the program. -/
import Derived.Test.YtkfmmiekajgdjaaGreatVg43
import Derived.ProofKit
import Derived.OpenShut
import Derived.Lib.SmallJoins
import Derived.Deep.Slices
import Derived.Deep.Fields
namespace Go.Proofs.YtkfmmiekajgdjaaGreat
open Go.ChangeShapes Go.WideShapes Go.ChangeAt Go.RowKit Go.Deep Go.Joins
set_option maxRecDepth 100000

section
variable {H : Type} {enc : TypeId × Value → H} {P : Program} {w : World}
/-- A slice of elements of m cells each. -/
theorem sl_of {t e : TypeId} {m n : Nat} {v : Value} {y : DataW H × List MemPlace} {α : Type} [Inhabited α] (Q : (Nat → Option Value) → α → Prop) (d : α) (ht : P.underlying t = some (.slice e)) (hc : P.cellsOf e = m) (hm : 0 < m) (hloc : ∀ (g g' : Nat → Option Value) (x : α), (∀ j, j < m → g j = g' j) → Q g x → Q g' x)
    (hQ : ∀ (cs : List Value) (k : Nat) (z : DataW H × List MemPlace), cs.length = m → DataW.trod enc P w 0 (fun _ => true) true k e cs = some z → ∃ x, Q (fun j => cs[j]?) x) (h : DataW.trod enc P w 0 (fun _ => true) true n t [v] = some y) :
    ∃ (o : Option Addr) (cap : Nat) (l : List α), v = .slice o l.length cap ∧ l.length ≤ 9223372036854775807 ∧ ∀ i, i < l.length → ∃ b off, o = some ⟨b, off, none⟩ ∧ Q (fun j => w.cell? ⟨b, off + i * m + j, none⟩) (l.getD i d) := by
  rcases open_slice ht h with ⟨h0, _⟩ | ⟨a, len, cap, m', k, D, Pl, hcs, _, hl, hcap, hmm, _, hx⟩
  · simp only [List.cons.injEq, and_true] at h0
    exact ⟨none, 0, [], h0, by simp, fun i hi => absurd hi (Nat.not_lt_zero _)⟩
  · simp only [List.cons.injEq, and_true] at hcs
    have hlm : len ≤ m' := by rw [hmm]; simp; exact hl
    have hspot : 0 < len → a.spot = none := fun hp => by
      obtain ⟨cs', h1, _⟩ := hx 0 (by omega)
      rw [hc] at h1
      obtain ⟨_, hlen, hcell⟩ := World.cells?_some h1
      have h0 := hcell 0 hm
      rw [List.getElem?_eq_getElem (by omega)] at h0
      obtain ⟨b, off, spot⟩ := a
      simpa [Addr.add] using World.cell?_spot h0
    have key : ∀ i, i < len → ∃ x, Q (fun j => w.cell? (a.add (i * m + j))) x := fun i hi => by
      obtain ⟨cs', h1, h2⟩ := hx i (by omega)
      rw [hc] at h1
      obtain ⟨_, hlen, hcell⟩ := World.cells?_some h1
      obtain ⟨x, hq⟩ := hQ cs' k _ hlen h2
      have hat : ∀ j, j < m → w.cell? (a.add (i * m + j)) = cs'[j]? := fun j hj => by
        rw [← add_add]
        exact hcell j hj
      exact ⟨x, hloc _ _ x (fun j hj => (hat j hj).symm) hq⟩
    obtain ⟨f, hf⟩ := choose_lt key
    refine ⟨some a, cap, (List.range len).map f, by rw [hcs]; simp, by simp [maxLen] at hcap ⊢; omega, fun i hi => ?_⟩
    have hi' : i < len := by simpa using hi
    have h1 := hf i hi'
    have h2 := hspot (by omega)
    obtain ⟨b, off, spot⟩ := a
    dsimp only at h2
    subst h2
    refine ⟨b, off, rfl, ?_⟩
    have e : ((List.range len).map f).getD i d = f i := by simp [List.getD_eq_getElem?_getD, hi']
    rw [e]
    refine hloc _ _ _ (fun j _ => ?_) h1
    rw [Addr.add_lit, Nat.add_assoc]
/-- One cell of a struct. -/
theorem fld_at {fs : Array Field} {cs : List Value} {xs : List (DataW H × List MemPlace)} {n : Nat} (hxl : xs.length = fs.size) (hg : ∀ (i : Nat) (f : Field), fs[i]? = some f → DataW.trod enc P w 0 (fun _ => true) true n f.type ((cs.drop f.offset).take (P.cellsOf f.type)) = xs[i]?) (i : Nat) (f : Field) (hf : fs[i]? = some f) : ∃ z, DataW.trod enc P w 0 (fun _ => true) true n f.type ((cs.drop f.offset).take (P.cellsOf f.type)) = some z := by
  have hi : i < xs.length := by rw [hxl]; exact (Array.getElem?_eq_some_iff.1 hf).1
  exact ⟨xs[i], by rw [hg i f hf, List.getElem?_eq_getElem hi]⟩
end

section
variable {H : Type} {enc : TypeId × Value → H} {w : World}
theorem cInt : Tryz.prog.cellsOf 3 = 1 := by kernel_rfl
theorem cStr : Tryz.prog.cellsOf 9 = 1 := by kernel_rfl
theorem cU8 : Tryz.prog.cellsOf 5 = 1 := by kernel_rfl
theorem int_at {n : Nat} {c : Value} {z : DataW H × List MemPlace} (h : DataW.trod enc Tryz.prog w 0 (fun _ => true) true n 3 [c] = some z) : ∃ x : Int, c = .int .i64 x ∧ (Lit.int .i64 x).wf = true := fld_int Tryz.underlying3 h
instance : Inhabited Art := ⟨Art.zero⟩
theorem art_cells {cs : List Value} {n : Nat} {z : DataW H × List MemPlace} (hl : cs.length = 7) (h : DataW.trod enc Tryz.prog w 0 (fun _ => true) true n 72 cs = some z) : ∃ x : Art, cs[0]? = some (.int .i64 x.k) ∧ cs[1]? = some (.int .i64 x.d) ∧ cs[2]? = some (.int .i64 x.f) ∧ cs[3]? = some (.int .i64 x.t) ∧ cs[4]? = some (.int .i64 x.p) ∧ cs[5]? = some (.int .i64 x.u) ∧ cs[6]? = some (.int .i64 x.r) := by
  obtain ⟨xs, m, _, _, _, hxl, hg⟩ := DataW.trod_struct Tryz.underlying72 h
  match cs, hl with
  | [c0, c1, c2, c3, c4, c5, c6], _ =>
    obtain ⟨z0, h0⟩ := fld_at hxl hg 0 _ rfl
    try simp only [List.getElem_toArray, List.getElem_cons_zero] at h0
    rw [cInt] at h0
    obtain ⟨x0, q0, _⟩ := int_at (c := c0) h0
    obtain ⟨z1, h1⟩ := fld_at hxl hg 1 _ rfl
    try simp only [List.getElem_toArray, List.getElem_cons_zero, List.getElem_cons_succ] at h1
    rw [cInt] at h1
    obtain ⟨x1, q1, _⟩ := int_at (c := c1) h1
    obtain ⟨z2, h2⟩ := fld_at hxl hg 2 _ rfl
    try simp only [List.getElem_toArray, List.getElem_cons_zero, List.getElem_cons_succ] at h2
    rw [cInt] at h2
    obtain ⟨x2, q2, _⟩ := int_at (c := c2) h2
    obtain ⟨z3, h3⟩ := fld_at hxl hg 3 _ rfl
    try simp only [List.getElem_toArray, List.getElem_cons_zero, List.getElem_cons_succ] at h3
    rw [cInt] at h3
    obtain ⟨x3, q3, _⟩ := int_at (c := c3) h3
    obtain ⟨z4, h4⟩ := fld_at hxl hg 4 _ rfl
    try simp only [List.getElem_toArray, List.getElem_cons_zero, List.getElem_cons_succ] at h4
    rw [cInt] at h4
    obtain ⟨x4, q4, _⟩ := int_at (c := c4) h4
    obtain ⟨z5, h5⟩ := fld_at hxl hg 5 _ rfl
    try simp only [List.getElem_toArray, List.getElem_cons_zero, List.getElem_cons_succ] at h5
    rw [cInt] at h5
    obtain ⟨x5, q5, _⟩ := int_at (c := c5) h5
    obtain ⟨z6, h6⟩ := fld_at hxl hg 6 _ rfl
    try simp only [List.getElem_toArray, List.getElem_cons_zero, List.getElem_cons_succ] at h6
    rw [cInt] at h6
    obtain ⟨x6, q6, _⟩ := int_at (c := c6) h6
    exact ⟨⟨x0, x1, x2, x3, x4, x5, x6⟩, by rw [q0]; rfl, by rw [q1]; rfl, by rw [q2]; rfl, by rw [q3]; rfl, by rw [q4]; rfl, by rw [q5]; rfl, by rw [q6]; rfl⟩
theorem chg_cells {cs : List Value} {n : Nat} {z : DataW H × List MemPlace} (hl : cs.length = 2) (h : DataW.trod enc Tryz.prog w 0 (fun _ => true) true n 139 cs = some z) : ∃ x : Int × Int, cs[0]? = some (.int .i64 x.1) ∧ cs[1]? = some (.int .i64 x.2) := by
  obtain ⟨xs, m, _, _, _, hxl, hg⟩ := DataW.trod_struct Tryz.underlying139 h
  match cs, hl with
  | [c0, c1], _ =>
    obtain ⟨z0, h0⟩ := fld_at hxl hg 0 _ rfl
    try simp only [List.getElem_toArray, List.getElem_cons_zero] at h0
    rw [cInt] at h0
    obtain ⟨x0, q0, _⟩ := int_at (c := c0) h0
    obtain ⟨z1, h1⟩ := fld_at hxl hg 1 _ rfl
    try simp only [List.getElem_toArray, List.getElem_cons_zero, List.getElem_cons_succ] at h1
    rw [cInt] at h1
    obtain ⟨x1, q1, _⟩ := int_at (c := c1) h1
    exact ⟨(x0, x1), by rw [q0]; rfl, by rw [q1]; rfl⟩
theorem slc_cells {cs : List Value} {n : Nat} {z : DataW H × List MemPlace} (hl : cs.length = 2) (h : DataW.trod enc Tryz.prog w 0 (fun _ => true) true n 50 cs = some z) : ∃ x : Int × Int, cs[0]? = some (.int .i64 x.1) ∧ cs[1]? = some (.int .i64 x.2) := by
  obtain ⟨xs, m, _, _, _, hxl, hg⟩ := DataW.trod_struct Tryz.underlying50 h
  match cs, hl with
  | [c0, c1], _ =>
    obtain ⟨z0, h0⟩ := fld_at hxl hg 0 _ rfl
    try simp only [List.getElem_toArray, List.getElem_cons_zero] at h0
    rw [cInt] at h0
    obtain ⟨x0, q0, _⟩ := int_at (c := c0) h0
    obtain ⟨z1, h1⟩ := fld_at hxl hg 1 _ rfl
    try simp only [List.getElem_toArray, List.getElem_cons_zero, List.getElem_cons_succ] at h1
    rw [cInt] at h1
    obtain ⟨x1, q1, _⟩ := int_at (c := c1) h1
    exact ⟨(x0, x1), by rw [q0]; rfl, by rw [q1]; rfl⟩
theorem lin_cells {cs : List Value} {n : Nat} {z : DataW H × List MemPlace} (hl : cs.length = 2) (h : DataW.trod enc Tryz.prog w 0 (fun _ => true) true n 119 cs = some z) : ∃ x : Int × Int, cs[0]? = some (.int .i64 x.1) ∧ cs[1]? = some (.int .i64 x.2) := by
  obtain ⟨xs, m, _, _, _, hxl, hg⟩ := DataW.trod_struct Tryz.underlying119 h
  match cs, hl with
  | [c0, c1], _ =>
    obtain ⟨z0, h0⟩ := fld_at hxl hg 0 _ rfl
    try simp only [List.getElem_toArray, List.getElem_cons_zero] at h0
    rw [cInt] at h0
    obtain ⟨x0, q0, _⟩ := int_at (c := c0) h0
    obtain ⟨z1, h1⟩ := fld_at hxl hg 1 _ rfl
    try simp only [List.getElem_toArray, List.getElem_cons_zero, List.getElem_cons_succ] at h1
    rw [cInt] at h1
    obtain ⟨x1, q1, _⟩ := int_at (c := c1) h1
    exact ⟨(x0, x1), by rw [q0]; rfl, by rw [q1]; rfl⟩
theorem arts_of {n : Nat} {v : Value} {y : DataW H × List MemPlace} (h : DataW.trod enc Tryz.prog w 0 (fun _ => true) true n 22 [v] = some y) : ∃ (o : Option Addr) (cap : Nat) (l : List Art), v = .slice o l.length cap ∧ l.length ≤ 9223372036854775807 ∧ Arts w o l := by
  obtain ⟨o, cap, l, h1, h2, h3⟩ := sl_of (m := 7) (fun g x => g 0 = some (.int .i64 x.k) ∧ g 1 = some (.int .i64 x.d) ∧ g 2 = some (.int .i64 x.f) ∧ g 3 = some (.int .i64 x.t) ∧ g 4 = some (.int .i64 x.p) ∧ g 5 = some (.int .i64 x.u) ∧ g 6 = some (.int .i64 x.r)) Art.zero Tryz.underlying22 (by kernel_rfl) (by decide)
    (fun g g' x hg ⟨a0, a1, a2, a3, a4, a5, a6⟩ => ⟨(hg 0 (by decide)) ▸ a0, (hg 1 (by decide)) ▸ a1, (hg 2 (by decide)) ▸ a2, (hg 3 (by decide)) ▸ a3, (hg 4 (by decide)) ▸ a4, (hg 5 (by decide)) ▸ a5, (hg 6 (by decide)) ▸ a6⟩) (fun cs k z hl hz => art_cells hl hz) h
  exact ⟨o, cap, l, h1, h2, fun i hi => by obtain ⟨b, off, ho, c0, c1, c2, c3, c4, c5, c6⟩ := h3 i hi; exact ⟨b, off, ho, c0, c1, c2, c3, c4, c5, c6⟩⟩
theorem chgs_of {n : Nat} {v : Value} {y : DataW H × List MemPlace} (h : DataW.trod enc Tryz.prog w 0 (fun _ => true) true n 25 [v] = some y) : ∃ (o : Option Addr) (cap : Nat) (l : List (Int × Int)), v = .slice o l.length cap ∧ l.length ≤ 9223372036854775807 ∧ Twos w o l := by
  obtain ⟨o, cap, l, h1, h2, h3⟩ := sl_of (m := 2) (fun g (x : Int × Int) => g 0 = some (.int .i64 x.1) ∧ g 1 = some (.int .i64 x.2)) (0, 0) Tryz.underlying25 (by kernel_rfl) (by decide)
    (fun g g' x hg ⟨a0, a1⟩ => ⟨(hg 0 (by decide)) ▸ a0, (hg 1 (by decide)) ▸ a1⟩) (fun cs k z hl hz => chg_cells hl hz) h
  exact ⟨o, cap, l, h1, h2, fun i hi => by obtain ⟨b, off, ho, c0, c1⟩ := h3 i hi; exact ⟨b, off, ho, c0, c1⟩⟩
theorem slcs_of {n : Nat} {v : Value} {y : DataW H × List MemPlace} (h : DataW.trod enc Tryz.prog w 0 (fun _ => true) true n 33 [v] = some y) : ∃ (o : Option Addr) (cap : Nat) (l : List (Int × Int)), v = .slice o l.length cap ∧ l.length ≤ 9223372036854775807 ∧ Twos w o l := by
  obtain ⟨o, cap, l, h1, h2, h3⟩ := sl_of (m := 2) (fun g (x : Int × Int) => g 0 = some (.int .i64 x.1) ∧ g 1 = some (.int .i64 x.2)) (0, 0) Tryz.underlying33 (by kernel_rfl) (by decide)
    (fun g g' x hg ⟨a0, a1⟩ => ⟨(hg 0 (by decide)) ▸ a0, (hg 1 (by decide)) ▸ a1⟩) (fun cs k z hl hz => slc_cells hl hz) h
  exact ⟨o, cap, l, h1, h2, fun i hi => by obtain ⟨b, off, ho, c0, c1⟩ := h3 i hi; exact ⟨b, off, ho, c0, c1⟩⟩
theorem lins_of {n : Nat} {v : Value} {y : DataW H × List MemPlace} (h : DataW.trod enc Tryz.prog w 0 (fun _ => true) true n 37 [v] = some y) : ∃ (o : Option Addr) (cap : Nat) (l : List (Int × Int)), v = .slice o l.length cap ∧ l.length ≤ 9223372036854775807 ∧ Twos w o l := by
  obtain ⟨o, cap, l, h1, h2, h3⟩ := sl_of (m := 2) (fun g (x : Int × Int) => g 0 = some (.int .i64 x.1) ∧ g 1 = some (.int .i64 x.2)) (0, 0) Tryz.underlying37 (by kernel_rfl) (by decide)
    (fun g g' x hg ⟨a0, a1⟩ => ⟨(hg 0 (by decide)) ▸ a0, (hg 1 (by decide)) ▸ a1⟩) (fun cs k z hl hz => lin_cells hl hz) h
  exact ⟨o, cap, l, h1, h2, fun i hi => by obtain ⟨b, off, ho, c0, c1⟩ := h3 i hi; exact ⟨b, off, ho, c0, c1⟩⟩
theorem hols_of {n : Nat} {v : Value} {y : DataW H × List MemPlace} (h : DataW.trod enc Tryz.prog w 0 (fun _ => true) true n 26 [v] = some y) : ∃ (o : Option Addr) (cap : Nat) (l : List Int), v = .slice o l.length cap ∧ l.length ≤ 9223372036854775807 ∧ Ints w o l := by
  obtain ⟨o, cap, l, h1, h2, h3⟩ := sl_of (m := 1) (fun g (x : Int) => g 0 = some (.int .i64 x)) 0 Tryz.underlying26 (by kernel_rfl) (by decide)
    (fun g g' x hg a0 => (hg 0 (by decide)) ▸ a0) (fun cs k z hl hz => by
      match cs, hl with
      | [c], _ =>
        obtain ⟨x, rfl, _⟩ := int_at hz
        exact ⟨x, rfl⟩) h
  exact ⟨o, cap, l, h1, h2, fun i hi => by obtain ⟨b, off, ho, c0⟩ := h3 i hi; exact ⟨b, off, ho, by simpa using c0⟩⟩
theorem mins_of {n : Nat} {v : Value} {y : DataW H × List MemPlace} (h : DataW.trod enc Tryz.prog w 0 (fun _ => true) true n 30 [v] = some y) : ∃ (o : Option Addr) (cap : Nat) (l : List (Nat × Nat)), v = .slice o l.length cap ∧ l.length ≤ 9223372036854775807 ∧ MinM w o l := by
  obtain ⟨o, cap, l, h1, h2, h3⟩ := sl_of (m := 2) (fun g (x : Nat × Nat) => g 0 = some (.int .u8 (x.1 : Nat)) ∧ g 1 = some (.int .u8 (x.2 : Nat)) ∧ x.1 < 256 ∧ x.2 < 256) (0, 0) Tryz.underlying30 (by kernel_rfl) (by decide)
    (fun g g' x hg ⟨a0, a1, a2, a3⟩ => ⟨(hg 0 (by decide)) ▸ a0, (hg 1 (by decide)) ▸ a1, a2, a3⟩) (fun cs k z hl hz => by
      obtain ⟨xs, m, _, _, _, hxl, hg⟩ := DataW.trod_array Tryz.underlying73 hz
      match cs, hl with
      | [c0, c1], _ =>
        have h0 := hg 0 (by decide)
        have h1 := hg 1 (by decide)
        rw [cU8, List.getElem?_eq_getElem (by omega)] at h0 h1
        obtain ⟨x0, q0, w0⟩ := fld_int (c := c0) Tryz.underlying5 h0
        obtain ⟨x1, q1, w1⟩ := fld_int (c := c1) Tryz.underlying5 h1
        have b0 := bounds_u8 w0
        have b1 := bounds_u8 w1
        obtain ⟨n0, rfl⟩ : ∃ n : Nat, x0 = n := ⟨x0.toNat, by omega⟩
        obtain ⟨n1, rfl⟩ : ∃ n : Nat, x1 = n := ⟨x1.toNat, by omega⟩
        exact ⟨(n0, n1), by rw [q0]; rfl, by rw [q1]; rfl, by show n0 < 256; omega, by show n1 < 256; omega⟩) h
  exact ⟨o, cap, l, h1, h2, fun i hi => by obtain ⟨b, off, ho, c0, c1, c2, c3⟩ := h3 i hi; exact ⟨b, off, ho, c0, c1, c2, c3⟩⟩
theorem tar_cells {cs : List Value} {n : Nat} {z : DataW H × List MemPlace} (hl : cs.length = 2) (h : DataW.trod enc Tryz.prog w 0 (fun _ => true) true n 24 cs = some z) : ∃ (nm : ByteArray) (o : Option Addr) (cap : Nat) (l : List Art), cs = [.string nm, .slice o l.length cap] ∧ nm.size ≤ 9223372036854775807 ∧ l.length ≤ 9223372036854775807 ∧ Arts w o l := by
  obtain ⟨xs, m, _, _, _, hxl, hg⟩ := DataW.trod_struct Tryz.underlying24 h
  match cs, hl with
  | [c0, c1], _ =>
    obtain ⟨z0, h0⟩ := fld_at hxl hg 0 _ rfl
    obtain ⟨z1, h1⟩ := fld_at hxl hg 1 _ rfl
    simp only [List.getElem_toArray, List.getElem_cons_zero, List.getElem_cons_succ] at h0 h1
    rw [cStr] at h0
    rw [(by kernel_rfl : Tryz.prog.cellsOf 22 = 1)] at h1
    obtain ⟨nm, e0, _, hn⟩ := DataW.trod_string (cs := [c0]) Tryz.underlying9 h0
    obtain ⟨o, cap, l, e1, hl1, hA⟩ := arts_of (v := c1) h1
    simp only [List.cons.injEq, and_true] at e0
    exact ⟨nm, o, cap, l, by rw [e0, e1], by simp [maxLen] at hn; omega, hl1, hA⟩
theorem cal_cells {cs : List Value} {n : Nat} {z : DataW H × List MemPlace} (hl : cs.length = 3) (h : DataW.trod enc Tryz.prog w 0 (fun _ => true) true n 28 cs = some z) : ∃ (off : Int) (oc : Option Addr) (cc : Nat) (chg : List (Int × Int)) (oh : Option Addr) (ch : Nat) (hol : List Int), cs = [.int .i64 off, .slice oc chg.length cc, .slice oh hol.length ch] ∧ chg.length ≤ 9223372036854775807 ∧ hol.length ≤ 9223372036854775807 ∧ Twos w oc chg ∧ Ints w oh hol := by
  obtain ⟨xs, m, _, _, _, hxl, hg⟩ := DataW.trod_struct Tryz.underlying28 h
  match cs, hl with
  | [c0, c1, c2], _ =>
    obtain ⟨z0, h0⟩ := fld_at hxl hg 0 _ rfl
    obtain ⟨z1, h1⟩ := fld_at hxl hg 1 _ rfl
    obtain ⟨z2, h2⟩ := fld_at hxl hg 2 _ rfl
    simp only [List.getElem_toArray, List.getElem_cons_zero, List.getElem_cons_succ] at h0 h1 h2
    rw [cInt] at h0
    rw [(by kernel_rfl : Tryz.prog.cellsOf 25 = 1)] at h1
    rw [(by kernel_rfl : Tryz.prog.cellsOf 26 = 1)] at h2
    obtain ⟨x, e0, _⟩ := int_at (c := c0) h0
    obtain ⟨oc, cc, chg, e1, l1, hT⟩ := chgs_of (v := c1) h1
    obtain ⟨oh, ch, hol, e2, l2, hI⟩ := hols_of (v := c2) h2
    exact ⟨x, oc, cc, chg, oh, ch, hol, by rw [e0, e1, e2], l1, l2, hT, hI⟩
/-- A parameter that is a struct, by its cells. -/
theorem structP {t : TypeId} {fs : Array Field} {k : Nat} {r : Reach} {b0 : Nat} {v : Value} {d : DataW H} {q : List MemPlace} (ht : Tryz.prog.underlying t = some (.struct fs)) (hc : Tryz.prog.cellsOf t = k) (hv : Value.okWide Tryz.prog w r b0 t v) (h : DataW.Trod enc Tryz.prog w 0 (fun _ => true) true t v d q) : ∃ (cs : List Value) (n : Nat), v = .agg cs.toArray ∧ cs.length = k ∧ DataW.trod enc Tryz.prog w 0 (fun _ => true) true n t cs = some (d, q) := by
  obtain ⟨cs, rfl, hsz⟩ := okWide_struct ht hv
  obtain ⟨fuel, hf⟩ := h
  exact ⟨cs.toList, fuel, by simp, by rw [Array.length_toList, hsz, hc], hf⟩
theorem tarP_of {r : Reach} {b0 : Nat} {v : Value} {d : DataW H} {q : List MemPlace} (hv : Value.okWide Tryz.prog w r b0 24 v) (h : DataW.Trod enc Tryz.prog w 0 (fun _ => true) true 24 v d q) : ∃ (nm : ByteArray) (o : Option Addr) (cap : Nat) (l : List Art), v = .agg #[.string nm, .slice o l.length cap] ∧ nm.size ≤ 9223372036854775807 ∧ l.length ≤ 9223372036854775807 ∧ Arts w o l := by
  obtain ⟨cs, n, rfl, hl, hf⟩ := structP (k := 2) Tryz.underlying24 (by kernel_rfl) hv h
  obtain ⟨nm, o, cap, l, rfl, h1, h2, h3⟩ := tar_cells hl hf
  exact ⟨nm, o, cap, l, rfl, h1, h2, h3⟩
theorem calP_of {r : Reach} {b0 : Nat} {v : Value} {d : DataW H} {q : List MemPlace} (hv : Value.okWide Tryz.prog w r b0 28 v) (h : DataW.Trod enc Tryz.prog w 0 (fun _ => true) true 28 v d q) : ∃ (off : Int) (oc : Option Addr) (cc : Nat) (chg : List (Int × Int)) (oh : Option Addr) (ch : Nat) (hol : List Int), v = .agg #[.int .i64 off, .slice oc chg.length cc, .slice oh hol.length ch] ∧ chg.length ≤ 9223372036854775807 ∧ hol.length ≤ 9223372036854775807 ∧ Twos w oc chg ∧ Ints w oh hol := by
  obtain ⟨cs, n, rfl, hl, hf⟩ := structP (k := 3) Tryz.underlying28 (by kernel_rfl) hv h
  obtain ⟨off, oc, cc, chg, oh, ch, hol, rfl, h1, h2, h3, h4⟩ := cal_cells hl hf
  exact ⟨off, oc, cc, chg, oh, ch, hol, rfl, h1, h2, h3, h4⟩
theorem minsP_of {r : Reach} {b0 : Nat} {v : Value} {d : DataW H} {q : List MemPlace} (hv : Value.okWide Tryz.prog w r b0 30 v) (h : DataW.Trod enc Tryz.prog w 0 (fun _ => true) true 30 v d q) : ∃ (o : Option Addr) (cap : Nat) (l : List (Nat × Nat)), v = .slice o l.length cap ∧ l.length ≤ 9223372036854775807 ∧ MinM w o l := by
  obtain ⟨a', len', cap', rfl⟩ := okWide_slice Tryz.underlying30 hv
  obtain ⟨n, hn⟩ := h
  exact mins_of (v := .slice a' len' cap') hn
end
end Go.Proofs.YtkfmmiekajgdjaaGreat