/- Chapter 22: the closure of FairRoom. -/
import Derived.Test.YtjaeekikddbbeaaWl22
import Derived.Test.YtjaeekikddbbeaaMixT
namespace Go.Proofs.Ytjaeekikddbbeaa
open Go.RowKit
attribute [local go_sem] Oper.semAt_some

def NextOut (n top : Int) (AT t : Nat) (w : World) (e : Ending) (w' : World) : Prop :=
  ∃ (v : Int) (t' : Nat), n ≤ v ∧ v ≤ top ∧ t' ≤ t + 1 ∧ e = .returned (.int .i64 v) ∧ Agr w w' [AT] ∧ Blk w' AT 3 #[.int .i64 (t' : Nat)]

set_option maxRecDepth 100000 in
set_option maxHeartbeats 8000000 in
theorem next_any (AM AT : Nat) (om : Option Addr) (cm : Nat) (more : List Int) (t : Nat) (n top : Int) (w : World) (h1 : w.cell? ⟨AM, 0, none⟩ = some (.slice om more.length cm)) (h2 : Blk w AT 3 #[.int .i64 (t : Nat)]) (hne : AM ≠ AT) (hm : IntsS [AT] w om more) (hl : more.length ≤ 100) (ht : t ≤ 1000) (hn : 0 ≤ n ∧ n ≤ top ∧ top ≤ 1000000) :
    Calls Try.prog 18 #[.int .i64 n, .int .i64 top, .pointer (some ⟨AM, 0, none⟩), .pointer (some ⟨AT, 0, none⟩)] w (NextOut n top AT t w) := by
  have H2 := Lib.hid h2
  have HM := Lib.hid hm
  have HC := Lib.hid h1
  clear h2 hm
  go_enter Try.func18, Try.ntmps18
  by_cases hm0 : more.length = 0
  · have hd : ((more.length : Int) == 0) = true := by rw [beq_iff_eq]; omega
    clear hm0
    go_wp2
    go_ret
    exact ⟨n, t, Int.le_refl _, hn.2.1, by omega, rfl, Agr.refl _ _, H2.out⟩
  have hd : ((more.length : Int) == 0) = false := by rw [beq_eq_false_iff_ne]; omega
  have a0 : w.cell? ⟨AT, 0, none⟩ = some (.int .i64 (t : Nat)) := H2.out.cell 0
  have f0 := H2.out.frozen 0
  have HB1 := Lib.hid (show Blk (w.setCell ⟨AT, 0, none⟩ (.int .i64 ((t : Int) + 1))) AT 3 #[.int .i64 ((t + 1 : Nat) : Int)] from by
    have := H2.out.set 0 (.int .i64 ((t : Int) + 1))
    simpa using this)
  have HA1 := Lib.hid ((Agr.refl w [AT]).set (g := AT) (i := 0) (u := .int .i64 ((t : Int) + 1)) (by simp))
  go_wp2_with fail
  clear hd a0 f0 h1
  obtain ⟨W, hW⟩ : ∃ W : World, W = w.setCell ⟨AT, 0, none⟩ (.int .i64 ((t : Int) + 1)) := ⟨_, rfl⟩
  rw [← hW] at HB1 HA1 ⊢
  clear hW
  obtain ⟨J, hJ⟩ : ∃ J, (t + 1) % more.length = J := ⟨_, rfl⟩
  have hJl : J < more.length := by rw [← hJ]; exact Nat.mod_lt _ (by omega)
  have eJ : ((t : Int) + 1).tmod (more.length : Int) = (J : Int) := by rw [← hJ, show (t : Int) + 1 = ((t + 1 : Nat) : Int) by omega, ← Int.ofNat_tmod]
  obtain ⟨b, off, hbo, hbS, c0⟩ := HM.out J hJl
  subst hbo
  have HC0 := Lib.hid (HA1.out.cell c0 hbS)
  have HC1 := Lib.hid (HA1.out.cell HC.out (by simp; exact hne))
  have HC2 := Lib.hid (show W.cell? ⟨AT, 0, none⟩ = some (.int .i64 ((t : Int) + 1)) from HB1.out.cell 0)
  clear hJ c0 hbS
  obtain ⟨q, hq⟩ : ∃ q, more.getD J 0 = q := ⟨_, rfl⟩
  rw [hq] at HC0
  clear hq
  have q1 : (0 : Int) < (more.length : Int) := by omega
  have q2 : ((more.length : Int) == 0) = false := by rw [beq_eq_false_iff_ne]; omega
  have q3 : (0 : Int) ≤ (J : Int) := by omega
  have q4 : (J : Int) < (more.length : Int) := by omega
  by_cases hq0 : 0 < q
  · obtain ⟨r, hr⟩ : ∃ r, q.tmod 100 = r := ⟨_, rfl⟩
    have hrb : 0 ≤ r ∧ r < 100 := by rw [← hr]; exact ⟨Int.tmod_nonneg _ (by omega), Int.tmod_lt_of_pos _ (by omega)⟩
    have er : q.tmod 100 = r := hr
    have ew : IntKind.i64.wrap (n + r) = n + r := IntWalk.i64_in _ (by omega)
    have hq1 : ¬ q < 0 := by omega
    have hq2 : ¬ q ≤ 0 := by omega
    have hm1 : max 0 q = q := by omega
    clear hr
    by_cases hs : n + r < top
    · have hs1 : n + r < top := hs
      have hs2 : ¬ top < n + r := by omega
      have hs3 : ¬ top ≤ n + r := by omega
      have hmn : min top (n + r) = n + r := by omega
      clear hs
      refine wp_region_B 14 (fun w'' => Below W.heap.size W w'') mixed (by kernel_rfl) (below_closed W) (Below.refl _ _).drew ?_
      simp only [List.take_succ_cons, List.take_zero, List.drop_succ_cons, List.drop_zero]
      intro KR hR
      have HR := Lib.hid hR
      clear hR
      have HCC := Lib.hid (show ∀ w'', Below W.heap.size W w'' → w''.cell? ⟨AM, 0, none⟩ = some (.slice (some ⟨b, off, none⟩) more.length cm) ∧ w''.cell? ⟨AT, 0, none⟩ = some (.int .i64 ((t : Int) + 1)) ∧ w''.cell? ⟨b, off + J, none⟩ = some (.int .i64 q) from fun w'' hw => ⟨cell_kept hw HC1.out, cell_kept hw HC2.out, cell_kept hw HC0.out⟩)
      apply wpB_val rfl
      · (intro w' hw'; go_simp; with_reducible rfl)
      simp only [Act.put, List.setIfInBounds_toArray, List.set_cons_zero, List.set_cons_succ]
      apply wpB_val rfl
      · (intro w' hw'; go_simp; with_reducible rfl)
      simp only [Act.put, List.setIfInBounds_toArray, List.set_cons_zero, List.set_cons_succ]
      apply wpB_val rfl
      · (intro w' hw'; obtain ⟨c0, c1, c2⟩ := HCC.out w' hw'; go_simp; with_reducible rfl)
      simp only [Act.put, List.setIfInBounds_toArray, List.set_cons_zero, List.set_cons_succ]
      apply wpB_val rfl
      · (intro w' hw'; obtain ⟨c0, c1, c2⟩ := HCC.out w' hw'; go_simp; with_reducible rfl)
      simp only [Act.put, List.setIfInBounds_toArray, List.set_cons_zero, List.set_cons_succ]
      apply wpB_val rfl
      · (intro w' hw'; obtain ⟨c0, c1, c2⟩ := HCC.out w' hw'; go_simp; with_reducible rfl)
      simp only [Act.put, List.setIfInBounds_toArray, List.set_cons_zero, List.set_cons_succ]
      apply wpB_val rfl
      · (intro w' hw'; go_simp; with_reducible rfl)
      simp only [Act.put, List.setIfInBounds_toArray, List.set_cons_zero, List.set_cons_succ]
      apply wpB_val rfl
      · (intro w' hw'; go_simp; with_reducible rfl)
      simp only [Act.put, List.setIfInBounds_toArray, List.set_cons_zero, List.set_cons_succ]
      apply wpB_val rfl
      · (intro w' hw'; go_simp; with_reducible rfl)
      simp only [Act.put, List.setIfInBounds_toArray, List.set_cons_zero, List.set_cons_succ]
      apply wpB_val rfl
      · (intro w' hw'; obtain ⟨c0, c1, c2⟩ := HCC.out w' hw'; go_simp; with_reducible rfl)
      simp only [Act.put, List.setIfInBounds_toArray, List.set_cons_zero, List.set_cons_succ]
      apply wpB_val rfl
      · (intro w' hw'; go_simp; with_reducible rfl)
      simp only [Act.put, List.setIfInBounds_toArray, List.set_cons_zero, List.set_cons_succ]
      apply wpB_val rfl
      · (intro w' hw'; go_simp; with_reducible rfl)
      simp only [Act.put, List.setIfInBounds_toArray, List.set_cons_zero, List.set_cons_succ]
      apply wpB_val rfl
      · (intro w' hw'; go_simp; with_reducible rfl)
      simp only [Act.put, List.setIfInBounds_toArray, List.set_cons_zero, List.set_cons_succ]
      apply wpB_val rfl
      · (intro w' hw'; go_simp; with_reducible rfl)
      simp only [Act.put, List.setIfInBounds_toArray, List.set_cons_zero, List.set_cons_succ]
      apply wpB_val rfl
      · (intro w' hw'; go_simp; with_reducible rfl)
      simp only [Act.put, List.setIfInBounds_toArray, List.set_cons_zero, List.set_cons_succ]
      refine wpB_nil (HR.out _ (fun w2 hw2 => ?_))
      clear HR HCC
      have HAE := Lib.hid (HA1.out.later hw2)
      have HBE := Lib.hid (HB1.out.later hw2)
      clear hw2
      go_wp2
      go_ret
      exact ⟨n + r, t + 1, by omega, by omega, Nat.le_refl _, rfl, HAE.out, HBE.out⟩
    · have hs1 : ¬ n + r < top := hs
      have hs3 : top ≤ n + r := by omega
      have hmn : min top (n + r) = top := by omega
      clear hs
      refine wp_region_B 14 (fun w'' => Below W.heap.size W w'') mixed (by kernel_rfl) (below_closed W) (Below.refl _ _).drew ?_
      simp only [List.take_succ_cons, List.take_zero, List.drop_succ_cons, List.drop_zero]
      intro KR hR
      have HR := Lib.hid hR
      clear hR
      have HCC := Lib.hid (show ∀ w'', Below W.heap.size W w'' → w''.cell? ⟨AM, 0, none⟩ = some (.slice (some ⟨b, off, none⟩) more.length cm) ∧ w''.cell? ⟨AT, 0, none⟩ = some (.int .i64 ((t : Int) + 1)) ∧ w''.cell? ⟨b, off + J, none⟩ = some (.int .i64 q) from fun w'' hw => ⟨cell_kept hw HC1.out, cell_kept hw HC2.out, cell_kept hw HC0.out⟩)
      apply wpB_val rfl
      · (intro w' hw'; go_simp; with_reducible rfl)
      simp only [Act.put, List.setIfInBounds_toArray, List.set_cons_zero, List.set_cons_succ]
      apply wpB_val rfl
      · (intro w' hw'; go_simp; with_reducible rfl)
      simp only [Act.put, List.setIfInBounds_toArray, List.set_cons_zero, List.set_cons_succ]
      apply wpB_val rfl
      · (intro w' hw'; obtain ⟨c0, c1, c2⟩ := HCC.out w' hw'; go_simp; with_reducible rfl)
      simp only [Act.put, List.setIfInBounds_toArray, List.set_cons_zero, List.set_cons_succ]
      apply wpB_val rfl
      · (intro w' hw'; obtain ⟨c0, c1, c2⟩ := HCC.out w' hw'; go_simp; with_reducible rfl)
      simp only [Act.put, List.setIfInBounds_toArray, List.set_cons_zero, List.set_cons_succ]
      apply wpB_val rfl
      · (intro w' hw'; obtain ⟨c0, c1, c2⟩ := HCC.out w' hw'; go_simp; with_reducible rfl)
      simp only [Act.put, List.setIfInBounds_toArray, List.set_cons_zero, List.set_cons_succ]
      apply wpB_val rfl
      · (intro w' hw'; go_simp; with_reducible rfl)
      simp only [Act.put, List.setIfInBounds_toArray, List.set_cons_zero, List.set_cons_succ]
      apply wpB_val rfl
      · (intro w' hw'; go_simp; with_reducible rfl)
      simp only [Act.put, List.setIfInBounds_toArray, List.set_cons_zero, List.set_cons_succ]
      apply wpB_val rfl
      · (intro w' hw'; go_simp; with_reducible rfl)
      simp only [Act.put, List.setIfInBounds_toArray, List.set_cons_zero, List.set_cons_succ]
      apply wpB_val rfl
      · (intro w' hw'; obtain ⟨c0, c1, c2⟩ := HCC.out w' hw'; go_simp; with_reducible rfl)
      simp only [Act.put, List.setIfInBounds_toArray, List.set_cons_zero, List.set_cons_succ]
      apply wpB_val rfl
      · (intro w' hw'; go_simp; with_reducible rfl)
      simp only [Act.put, List.setIfInBounds_toArray, List.set_cons_zero, List.set_cons_succ]
      apply wpB_val rfl
      · (intro w' hw'; go_simp; with_reducible rfl)
      simp only [Act.put, List.setIfInBounds_toArray, List.set_cons_zero, List.set_cons_succ]
      apply wpB_val rfl
      · (intro w' hw'; go_simp; with_reducible rfl)
      simp only [Act.put, List.setIfInBounds_toArray, List.set_cons_zero, List.set_cons_succ]
      apply wpB_val rfl
      · (intro w' hw'; go_simp; with_reducible rfl)
      simp only [Act.put, List.setIfInBounds_toArray, List.set_cons_zero, List.set_cons_succ]
      apply wpB_val rfl
      · (intro w' hw'; go_simp; with_reducible rfl)
      simp only [Act.put, List.setIfInBounds_toArray, List.set_cons_zero, List.set_cons_succ]
      refine wpB_nil (HR.out _ (fun w2 hw2 => ?_))
      clear HR HCC
      have HAE := Lib.hid (HA1.out.later hw2)
      have HBE := Lib.hid (HB1.out.later hw2)
      clear hw2
      go_wp2
      go_ret
      exact ⟨top, t + 1, by omega, by omega, Nat.le_refl _, rfl, HAE.out, HBE.out⟩
  · have hq1 : ¬ 0 < q := hq0
    have hq2 : q ≤ 0 := by omega
    have ew : IntKind.i64.wrap (n + 0) = n := by rw [Int.add_zero]; exact IntWalk.i64_in _ (by omega)
    have ew2 : IntKind.i64.wrap n = n := IntWalk.i64_in _ (by omega)
    clear hq0
    by_cases hs : n < top
    · have hs1 : ¬ top < n := by omega
      have hs2 : ¬ top ≤ n := by omega
      refine wp_region_B 14 (fun w'' => Below W.heap.size W w'') mixed (by kernel_rfl) (below_closed W) (Below.refl _ _).drew ?_
      simp only [List.take_succ_cons, List.take_zero, List.drop_succ_cons, List.drop_zero]
      intro KR hR
      have HR := Lib.hid hR
      clear hR
      have HCC := Lib.hid (show ∀ w'', Below W.heap.size W w'' → w''.cell? ⟨AM, 0, none⟩ = some (.slice (some ⟨b, off, none⟩) more.length cm) ∧ w''.cell? ⟨AT, 0, none⟩ = some (.int .i64 ((t : Int) + 1)) ∧ w''.cell? ⟨b, off + J, none⟩ = some (.int .i64 q) from fun w'' hw => ⟨cell_kept hw HC1.out, cell_kept hw HC2.out, cell_kept hw HC0.out⟩)
      apply wpB_val rfl
      · (intro w' hw'; go_simp; with_reducible rfl)
      simp only [Act.put, List.setIfInBounds_toArray, List.set_cons_zero, List.set_cons_succ]
      apply wpB_val rfl
      · (intro w' hw'; go_simp; with_reducible rfl)
      simp only [Act.put, List.setIfInBounds_toArray, List.set_cons_zero, List.set_cons_succ]
      apply wpB_val rfl
      · (intro w' hw'; obtain ⟨c0, c1, c2⟩ := HCC.out w' hw'; go_simp; with_reducible rfl)
      simp only [Act.put, List.setIfInBounds_toArray, List.set_cons_zero, List.set_cons_succ]
      apply wpB_val rfl
      · (intro w' hw'; obtain ⟨c0, c1, c2⟩ := HCC.out w' hw'; go_simp; with_reducible rfl)
      simp only [Act.put, List.setIfInBounds_toArray, List.set_cons_zero, List.set_cons_succ]
      apply wpB_val rfl
      · (intro w' hw'; obtain ⟨c0, c1, c2⟩ := HCC.out w' hw'; go_simp; with_reducible rfl)
      simp only [Act.put, List.setIfInBounds_toArray, List.set_cons_zero, List.set_cons_succ]
      apply wpB_val rfl
      · (intro w' hw'; go_simp; with_reducible rfl)
      simp only [Act.put, List.setIfInBounds_toArray, List.set_cons_zero, List.set_cons_succ]
      apply wpB_val rfl
      · (intro w' hw'; go_simp; with_reducible rfl)
      simp only [Act.put, List.setIfInBounds_toArray, List.set_cons_zero, List.set_cons_succ]
      apply wpB_val rfl
      · (intro w' hw'; go_simp; with_reducible rfl)
      simp only [Act.put, List.setIfInBounds_toArray, List.set_cons_zero, List.set_cons_succ]
      apply wpB_val rfl
      · (intro w' hw'; obtain ⟨c0, c1, c2⟩ := HCC.out w' hw'; go_simp; with_reducible rfl)
      simp only [Act.put, List.setIfInBounds_toArray, List.set_cons_zero, List.set_cons_succ]
      apply wpB_val rfl
      · (intro w' hw'; go_simp; with_reducible rfl)
      simp only [Act.put, List.setIfInBounds_toArray, List.set_cons_zero, List.set_cons_succ]
      apply wpB_val rfl
      · (intro w' hw'; go_simp; with_reducible rfl)
      simp only [Act.put, List.setIfInBounds_toArray, List.set_cons_zero, List.set_cons_succ]
      apply wpB_val rfl
      · (intro w' hw'; go_simp; with_reducible rfl)
      simp only [Act.put, List.setIfInBounds_toArray, List.set_cons_zero, List.set_cons_succ]
      apply wpB_val rfl
      · (intro w' hw'; go_simp; with_reducible rfl)
      simp only [Act.put, List.setIfInBounds_toArray, List.set_cons_zero, List.set_cons_succ]
      apply wpB_val rfl
      · (intro w' hw'; go_simp; with_reducible rfl)
      simp only [Act.put, List.setIfInBounds_toArray, List.set_cons_zero, List.set_cons_succ]
      refine wpB_nil (HR.out _ (fun w2 hw2 => ?_))
      clear HR HCC
      have HAE := Lib.hid (HA1.out.later hw2)
      have HBE := Lib.hid (HB1.out.later hw2)
      clear hw2
      go_wp2
      go_ret
      exact ⟨n, t + 1, by omega, by omega, Nat.le_refl _, rfl, HAE.out, HBE.out⟩
    · obtain rfl : n = top := by omega
      have hs1 : ¬ n < n := by omega
      refine wp_region_B 14 (fun w'' => Below W.heap.size W w'') mixed (by kernel_rfl) (below_closed W) (Below.refl _ _).drew ?_
      simp only [List.take_succ_cons, List.take_zero, List.drop_succ_cons, List.drop_zero]
      intro KR hR
      have HR := Lib.hid hR
      clear hR
      have HCC := Lib.hid (show ∀ w'', Below W.heap.size W w'' → w''.cell? ⟨AM, 0, none⟩ = some (.slice (some ⟨b, off, none⟩) more.length cm) ∧ w''.cell? ⟨AT, 0, none⟩ = some (.int .i64 ((t : Int) + 1)) ∧ w''.cell? ⟨b, off + J, none⟩ = some (.int .i64 q) from fun w'' hw => ⟨cell_kept hw HC1.out, cell_kept hw HC2.out, cell_kept hw HC0.out⟩)
      apply wpB_val rfl
      · (intro w' hw'; go_simp; with_reducible rfl)
      simp only [Act.put, List.setIfInBounds_toArray, List.set_cons_zero, List.set_cons_succ]
      apply wpB_val rfl
      · (intro w' hw'; go_simp; with_reducible rfl)
      simp only [Act.put, List.setIfInBounds_toArray, List.set_cons_zero, List.set_cons_succ]
      apply wpB_val rfl
      · (intro w' hw'; obtain ⟨c0, c1, c2⟩ := HCC.out w' hw'; go_simp; with_reducible rfl)
      simp only [Act.put, List.setIfInBounds_toArray, List.set_cons_zero, List.set_cons_succ]
      apply wpB_val rfl
      · (intro w' hw'; obtain ⟨c0, c1, c2⟩ := HCC.out w' hw'; go_simp; with_reducible rfl)
      simp only [Act.put, List.setIfInBounds_toArray, List.set_cons_zero, List.set_cons_succ]
      apply wpB_val rfl
      · (intro w' hw'; obtain ⟨c0, c1, c2⟩ := HCC.out w' hw'; go_simp; with_reducible rfl)
      simp only [Act.put, List.setIfInBounds_toArray, List.set_cons_zero, List.set_cons_succ]
      apply wpB_val rfl
      · (intro w' hw'; go_simp; with_reducible rfl)
      simp only [Act.put, List.setIfInBounds_toArray, List.set_cons_zero, List.set_cons_succ]
      apply wpB_val rfl
      · (intro w' hw'; go_simp; with_reducible rfl)
      simp only [Act.put, List.setIfInBounds_toArray, List.set_cons_zero, List.set_cons_succ]
      apply wpB_val rfl
      · (intro w' hw'; go_simp; with_reducible rfl)
      simp only [Act.put, List.setIfInBounds_toArray, List.set_cons_zero, List.set_cons_succ]
      apply wpB_val rfl
      · (intro w' hw'; obtain ⟨c0, c1, c2⟩ := HCC.out w' hw'; go_simp; with_reducible rfl)
      simp only [Act.put, List.setIfInBounds_toArray, List.set_cons_zero, List.set_cons_succ]
      apply wpB_val rfl
      · (intro w' hw'; go_simp; with_reducible rfl)
      simp only [Act.put, List.setIfInBounds_toArray, List.set_cons_zero, List.set_cons_succ]
      apply wpB_val rfl
      · (intro w' hw'; go_simp; with_reducible rfl)
      simp only [Act.put, List.setIfInBounds_toArray, List.set_cons_zero, List.set_cons_succ]
      apply wpB_val rfl
      · (intro w' hw'; go_simp; with_reducible rfl)
      simp only [Act.put, List.setIfInBounds_toArray, List.set_cons_zero, List.set_cons_succ]
      apply wpB_val rfl
      · (intro w' hw'; go_simp; with_reducible rfl)
      simp only [Act.put, List.setIfInBounds_toArray, List.set_cons_zero, List.set_cons_succ]
      apply wpB_val rfl
      · (intro w' hw'; go_simp; with_reducible rfl)
      simp only [Act.put, List.setIfInBounds_toArray, List.set_cons_zero, List.set_cons_succ]
      refine wpB_nil (HR.out _ (fun w2 hw2 => ?_))
      clear HR HCC
      have HAE := Lib.hid (HA1.out.later hw2)
      have HBE := Lib.hid (HB1.out.later hw2)
      clear hw2
      go_wp2
      go_ret
      exact ⟨n, t + 1, by omega, by omega, Nat.le_refl _, rfl, HAE.out, HBE.out⟩
end Go.Proofs.Ytjaeekikddbbeaa
