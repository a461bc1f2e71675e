/- Steps that came in, opened. No statement about the program. -/
import Derived.Test.YthgkfdhkmkbioaaOr21
import Derived.Test.YthgkfdhkmkbioaaTp21
namespace Go.Proofs.Ythgkfdhkmkbioaa
open Go.ChangeShapes Go.WideShapes Go.ChangeAt Go.RowKit Go.Deep Go.Joins
set_option maxRecDepth 100000
section
variable {H : Type} {enc : TypeId × Value → H} {w : World}
theorem cU8 : Try.prog.cellsOf 5 = 1 := by kernel_rfl
theorem cBool : Try.prog.cellsOf 4 = 1 := by kernel_rfl
theorem cJob : Try.prog.cellsOf 27 = 5 := by kernel_rfl
instance : Inhabited Rsv := ⟨Rsv.zero⟩
theorem step_cells {cs : List Value} {n : Nat} {z : DataW H × List MemPlace} (hl : cs.length = 7) (h : DataW.trod enc Try.prog w 0 (fun _ => true) true n 38 cs = some z) : ∃ x : Rsv, cs[0]? = some (.bool x.p) ∧ cs[1]? = some (.int .u8 (x.m : Nat)) ∧ cs[2]? = some (.int .i64 x.j.f) ∧ cs[3]? = some (.int .i64 x.j.t) ∧ cs[4]? = some (.int .i64 x.j.e) ∧ cs[5]? = some (.int .i64 x.j.r) ∧ cs[6]? = some (.int .i64 x.j.k) ∧ x.m < 256 := by
  obtain ⟨xs, m, _, _, _, hxl, hg⟩ := DataW.trod_struct Try.underlying38 h
  match cs, hl with
  | [c0, c1, c2, c3, c4, c5, c6], _ =>
    obtain ⟨z0, h0⟩ := fld_at hxl hg 0 _ rfl
    obtain ⟨z1, h1⟩ := fld_at hxl hg 1 _ rfl
    obtain ⟨z2, h2⟩ := fld_at hxl hg 2 _ rfl
    try simp only [List.getElem_toArray, List.getElem_cons_zero, List.getElem_cons_succ] at h0 h1 h2
    rw [cBool] at h0
    rw [cU8] at h1
    rw [cJob] at h2
    obtain ⟨p, q0, _⟩ := DataW.trod_bool (cs := [c0]) Try.underlying4 h0
    obtain ⟨x1, q1, w1⟩ := fld_int (c := c1) Try.underlying5 h1
    obtain ⟨j, j0, j1, j2, j3, j4⟩ := job_cells (cs := [c2, c3, c4, c5, c6]) rfl h2
    have b1 := bounds_u8 w1
    obtain ⟨k, rfl⟩ : ∃ k : Nat, x1 = k := ⟨x1.toNat, by omega⟩
    simp only [List.cons.injEq, and_true] at q0
    exact ⟨⟨p, k, j⟩, by rw [q0]; rfl, by rw [q1]; rfl, j0, j1, j2, j3, j4, by show k < 256; omega⟩
theorem stepsP_of {r : _root_.Go.Reach} {b0 : Nat} {v : Value} {d : DataW H} {q : List MemPlace} (hv : Value.okWide Try.prog w r b0 36 v) (h : DataW.Trod enc Try.prog w 0 (fun _ => true) true 36 v d q) : ∃ (o : Option Addr) (cap : Nat) (l : List Rsv), v = .slice o l.length cap ∧ l.length ≤ 9223372036854775807 ∧ StepsM w o l := by
  obtain ⟨a', len', cap', rfl⟩ := okWide_slice Try.underlying36 hv
  obtain ⟨n, hn⟩ := h
  obtain ⟨o, cap, l, h1, h2, h3⟩ := sl_of (m := 7) (v := .slice a' len' cap') (fun g (x : Rsv) => g 0 = some (.bool x.p) ∧ g 1 = some (.int .u8 (x.m : Nat)) ∧ g 2 = some (.int .i64 x.j.f) ∧ g 3 = some (.int .i64 x.j.t) ∧ g 4 = some (.int .i64 x.j.e) ∧ g 5 = some (.int .i64 x.j.r) ∧ g 6 = some (.int .i64 x.j.k) ∧ x.m < 256) Rsv.zero Try.underlying36 (by kernel_rfl) (by decide)
    (fun g g' x hg ⟨a0, a1, a2, a3, a4, a5, a6, a7⟩ => ⟨(hg 0 (by decide)) ▸ a0, (hg 1 (by decide)) ▸ a1, (hg 2 (by decide)) ▸ a2, (hg 3 (by decide)) ▸ a3, (hg 4 (by decide)) ▸ a4, (hg 5 (by decide)) ▸ a5, (hg 6 (by decide)) ▸ a6, a7⟩) (fun cs k z hl hz => step_cells hl hz) hn
  exact ⟨o, cap, l, h1, h2, fun i hi => by obtain ⟨b, off, ho, c0, c1, c2, c3, c4, c5, c6, c7⟩ := h3 i hi; exact ⟨b, off, ho, (by dsimp only at c0; rw [Nat.add_zero] at c0; exact c0), c1, c2, c3, c4, c5, c6, c7⟩⟩
theorem promisesTop (S : List Int) (os : Option Addr) (cs : Nat) (l : List Rsv) (ol : Option Addr) (cl : Nat) (w : World) (hs : Ints w os S) (hbs : S.length ≤ 9223372036854775807) (hl : StepsM w ol l) (hbl : l.length ≤ 9223372036854775807) :
    Calls Try.prog 4 #[.slice os S.length cs, .slice ol l.length cl] w (Ret (.bool true) w) := promises_any w S l os ol cs cl hs hl hbs hbl
end
end Go.Proofs.Ythgkfdhkmkbioaa
