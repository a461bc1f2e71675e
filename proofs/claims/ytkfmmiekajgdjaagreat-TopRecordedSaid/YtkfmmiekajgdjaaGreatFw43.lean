/- Whether arguments are few: the answers are bools, and nothing changes. -/
import Derived.Test.YtkfmmiekajgdjaaGreatWr43
import Derived.Deep.Cut
import Derived.Deep.CutRange
namespace Go.Proofs.YtkfmmiekajgdjaaGreat
open Go.RowKit
attribute [local go_sem] Oper.semAt_some

def BoolOut (F : Prop) (w : World) (e : Ending) (w' : World) : Prop := (∃ b, e = .returned (.bool b) ∧ (b = true → F)) ∧ Below w.heap.size w w'
set_option maxRecDepth 100000 in
set_option maxHeartbeats 4000000 in
theorem few26_any (off : Int) (oc oh : Option Addr) (nc cc nh ch : Nat) (w : World) : Calls Tryz.prog 18 #[.agg #[.int .i64 off, .slice oc nc cc, .slice oh nh ch]] w (BoolOut (nc ≤ 30 ∧ nh ≤ 60) w) := by
  have HB := Lib.hid (show ∀ b, (b = true → nc ≤ 30 ∧ nh ≤ 60) → BoolOut (nc ≤ 30 ∧ nh ≤ 60) w (.returned (.bool b)) (w.alloc (.cells #[.int .i64 off, .slice oc nc cc, .slice oh nh ch] 28)) from fun b h => ⟨⟨b, rfl, h⟩, below_alloc (Below.refl _ _) _⟩)
  go_enter Tryz.func18, Tryz.ntmps18
  cases d1 : decide ((nc : Int) ≤ 30) with
  | true =>
    have h1 := of_decide_eq_true d1
    go_wp2
    go_ret
    exact HB.out _ (fun h => ⟨by omega, by have := of_decide_eq_true h; omega⟩)
  | false =>
    go_wp2
    go_ret
    exact HB.out _ (fun h => by cases h)
set_option maxRecDepth 100000 in
set_option maxHeartbeats 4000000 in
theorem few33_any (nm : ByteArray) (oa : Option Addr) (na ca : Nat) (off : Int) (oc oh : Option Addr) (nc cc nh ch : Nat) (f t e : Int) (os : Option Addr) (ns cs : Nat) (w : World) : Calls Tryz.prog 7 #[.agg #[.string nm, .slice oa na ca], .agg #[.int .i64 off, .slice oc nc cc, .slice oh nh ch], .agg #[.int .i64 f, .int .i64 t, .int .i64 e, .slice os ns cs]] w (BoolOut (nm.size ≤ 50 ∧ na ≤ 20 ∧ nc ≤ 30 ∧ nh ≤ 60 ∧ ns ≤ 60) w) := by
  go_enter Tryz.func7, Tryz.ntmps7
  go_upto_region 1 with (fail)
  obtain ⟨wa, hwa⟩ : ∃ W, W = w.alloc (.cells #[.string nm, .slice oa na ca] 24) := ⟨_, rfl⟩
  obtain ⟨wb, hwb⟩ : ∃ W, W = wa.alloc (.cells #[.int .i64 off, .slice oc nc cc, .slice oh nh ch] 28) := ⟨_, rfl⟩
  obtain ⟨W1, hW1⟩ : ∃ W, W = wb.alloc (.cells #[.int .i64 f, .int .i64 t, .int .i64 e, .slice os ns cs] 35) := ⟨_, rfl⟩
  have hsa : wa.heap.size = w.heap.size + 1 := by rw [hwa, World.size_alloc]
  have hsb : wb.heap.size = w.heap.size + 1 + 1 := by rw [hwb, World.size_alloc, hsa]
  have HT := Lib.hid (show Blk W1 w.heap.size 24 #[.string nm, .slice oa na ca] by rw [hW1, hwb]; refine Blk.alloc (Blk.alloc ?_ _) _; rw [hwa]; exact Blk.new _ _ _)
  have HC := Lib.hid (show Blk W1 (w.heap.size + 1) 28 #[.int .i64 off, .slice oc nc cc, .slice oh nh ch] by rw [hW1]; refine Blk.alloc ?_ _; rw [hwb, ← hsa]; exact Blk.new _ _ _)
  have HS := Lib.hid (show Blk W1 (w.heap.size + 1 + 1) 35 #[.int .i64 f, .int .i64 t, .int .i64 e, .slice os ns cs] by rw [hW1, ← hsb]; exact Blk.new _ _ _)
  have HB := Lib.hid (show Below w.heap.size w W1 by rw [hW1, hwb, hwa]; exact below_alloc (below_alloc (below_alloc (Below.refl _ _) _) _) _)
  have hS1 : W1 = ((w.alloc (.cells #[.string nm, .slice oa na ca] 24)).alloc (.cells #[.int .i64 off, .slice oc nc cc, .slice oh nh ch] 28)).alloc (.cells #[.int .i64 f, .int .i64 t, .int .i64 e, .slice os ns cs] 35) := by rw [hW1, hwb, hwa]
  rw [← hS1]
  clear hS1 hW1 hwb hwa hsa hsb
  have c0 : W1.cell? ⟨w.heap.size + 1, 0, none⟩ = some (.int .i64 off) := HC.out.cell 0
  have c1 : W1.cell? ⟨w.heap.size + 1, 1, none⟩ = some (.slice oc nc cc) := HC.out.cell 1
  have c2 : W1.cell? ⟨w.heap.size + 1, 2, none⟩ = some (.slice oh nh ch) := HC.out.cell 2
  go_wp2_with fail
  refine (few26_any off oc oh nc cc nh ch W1).mono ?_
  rintro _ W2 ⟨⟨b, rfl, hcl⟩, hb⟩
  have HB2 := Lib.hid (show ∀ b, (b = true → (nm.size ≤ 50 ∧ na ≤ 20 ∧ nc ≤ 30 ∧ nh ≤ 60 ∧ ns ≤ 60)) → BoolOut (nm.size ≤ 50 ∧ na ≤ 20 ∧ nc ≤ 30 ∧ nh ≤ 60 ∧ ns ≤ 60) w (.returned (.bool b)) W2 from fun b h => ⟨⟨b, rfl, h⟩, below_step HB.out hb⟩)
  have HCL := Lib.hid hcl
  clear hcl
  have t0 : W2.cell? ⟨w.heap.size, 0, none⟩ = some (.string nm) := (HT.out.later hb).cell 0
  have t1 : W2.cell? ⟨w.heap.size, 1, none⟩ = some (.slice oa na ca) := (HT.out.later hb).cell 1
  have s3 : W2.cell? ⟨w.heap.size + 1 + 1, 3, none⟩ = some (.slice os ns cs) := (HS.out.later hb).cell 3
  clear hb c0 c1 c2
  cases b with
  | false =>
    go_wp2
    go_ret
    exact HB2.out _ (fun h => by cases h)
  | true =>
    cases d1 : decide ((nm.size : Int) ≤ 50) with
    | false =>
      go_wp2
      go_ret
      exact HB2.out _ (fun h => by cases h)
    | true =>
      have h1 := of_decide_eq_true d1
      cases d2 : decide ((na : Int) ≤ 20) with
      | false =>
        go_wp2
        go_ret
        exact HB2.out _ (fun h => by cases h)
      | true =>
        have h2 := of_decide_eq_true d2
        have HH := Lib.hid (show nm.size ≤ 50 ∧ na ≤ 20 from ⟨by omega, by omega⟩)
        clear h1 h2
        go_wp2
        go_ret
        exact HB2.out _ (fun h => ⟨HH.out.1, HH.out.2, (HCL.out (by simp)).1, (HCL.out (by simp)).2, by have := of_decide_eq_true h; omega⟩)
end Go.Proofs.YtkfmmiekajgdjaaGreat
