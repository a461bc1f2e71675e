/- Whether a claim is small enough to be examined. -/
import Derived.Test.YtkfmmiekajgdjaaGreatFw43
namespace Go.Proofs.YtkfmmiekajgdjaaGreat
open Go.RowKit
attribute [local go_sem] Oper.semAt_some

def FewC (c : ClA) : Prop := (c.nm.size ≤ 50 ∧ c.arts.length ≤ 20 ∧ c.chg.length ≤ 30 ∧ c.hol.length ≤ 60 ∧ c.s.l.length ≤ 60) ∧ c.rds.length ≤ 80 ∧ c.b.l.length ≤ 40
set_option maxRecDepth 100000 in
set_option maxHeartbeats 4000000 in
theorem few43_any (c : ClA) (w : World) : Calls Tryz.prog 11 #[.agg (clL c).toArray] w (BoolOut (FewC c) w) := by
  go_enter Tryz.func11, Tryz.ntmps11
  go_upto_region 1 with (fail)
  obtain ⟨W1, hW1⟩ : ∃ W, W = w.alloc (.cells (clL c).toArray 41) := ⟨_, rfl⟩
  have HQ := Lib.hid (show Blk W1 w.heap.size 41 (clL c).toArray by rw [hW1]; exact Blk.new _ _ _)
  have HB := Lib.hid (show Below w.heap.size w W1 by rw [hW1]; exact below_alloc (Below.refl _ _) _)
  rw [← hW1]
  clear hW1
  have q0 : W1.cell? ⟨w.heap.size, 0, none⟩ = some (.string c.nm) := HQ.out.cell 0
  have q1 : W1.cell? ⟨w.heap.size, 1, none⟩ = some (.slice c.oa c.arts.length c.ca) := HQ.out.cell 1
  have q2 : W1.cell? ⟨w.heap.size, 2, none⟩ = some (.int .i64 c.off) := HQ.out.cell 2
  have q3 : W1.cell? ⟨w.heap.size, 3, none⟩ = some (.slice c.oc c.chg.length c.cc) := HQ.out.cell 3
  have q4 : W1.cell? ⟨w.heap.size, 4, none⟩ = some (.slice c.oh c.hol.length c.ch) := HQ.out.cell 4
  have q5 : W1.cell? ⟨w.heap.size, 5, none⟩ = some (.slice c.od c.rds.length c.cd) := HQ.out.cell 5
  have q6 : W1.cell? ⟨w.heap.size, 6, none⟩ = some (.int .u64 (c.seed : Nat)) := HQ.out.cell 6
  have q7 : W1.cell? ⟨w.heap.size, 7, none⟩ = some (.int .i64 c.s.f) := HQ.out.cell 7
  have q8 : W1.cell? ⟨w.heap.size, 8, none⟩ = some (.int .i64 c.s.t) := HQ.out.cell 8
  have q9 : W1.cell? ⟨w.heap.size, 9, none⟩ = some (.int .i64 c.s.e) := HQ.out.cell 9
  have q10 : W1.cell? ⟨w.heap.size, 10, none⟩ = some (.slice c.s.o c.s.l.length c.s.cap) := HQ.out.cell 10
  have q11 : W1.cell? ⟨w.heap.size, 11, none⟩ = some (.slice c.b.o c.b.l.length c.b.cap) := HQ.out.cell 11
  have q12 : W1.cell? ⟨w.heap.size, 12, none⟩ = some (.int .i64 c.b.net) := HQ.out.cell 12
  have q13 : W1.cell? ⟨w.heap.size, 13, none⟩ = some (.int .i64 c.b.tax) := HQ.out.cell 13
  have q14 : W1.cell? ⟨w.heap.size, 14, none⟩ = some (.int .i64 c.b.tot) := HQ.out.cell 14
  go_wp2_with fail
  refine (few33_any c.nm c.oa c.arts.length c.ca c.off c.oc c.oh c.chg.length c.cc c.hol.length c.ch c.s.f c.s.t c.s.e c.s.o c.s.l.length c.s.cap W1).mono ?_
  rintro _ W2 ⟨⟨b, rfl, hcl⟩, hb⟩
  have HB2 := Lib.hid (show ∀ b, (b = true → FewC c) → BoolOut (FewC c) w (.returned (.bool b)) W2 from fun b h => ⟨⟨b, rfl, h⟩, below_step HB.out hb⟩)
  replace HQ := Lib.hid (HQ.out.later hb)
  clear hb q0 q1 q2 q3 q4 q5 q6 q7 q8 q9 q10 q11 q12 q13 q14
  cases b with
  | false =>
    clear hcl
    go_wp2
    go_ret
    exact HB2.out _ (fun h => by cases h)
  | true =>
    have HCL := Lib.hid (hcl rfl)
    clear hcl
    have q5 : W2.cell? ⟨w.heap.size, 5, none⟩ = some (.slice c.od c.rds.length c.cd) := HQ.out.cell 5
    have q11 : W2.cell? ⟨w.heap.size, 11, none⟩ = some (.slice c.b.o c.b.l.length c.b.cap) := HQ.out.cell 11
    cases d1 : decide ((c.rds.length : Int) ≤ 80) with
    | false =>
      go_wp2
      go_ret
      exact HB2.out _ (fun h => by cases h)
    | true =>
      have HH := Lib.hid (show c.rds.length ≤ 80 by have := of_decide_eq_true d1; omega)
      go_wp2
      go_ret
      exact HB2.out _ (fun h => ⟨HCL.out, HH.out, by have := of_decide_eq_true h; omega⟩)
end Go.Proofs.YtkfmmiekajgdjaaGreat