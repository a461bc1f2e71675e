/- Package settle: isNetwork, move. -/
import Derived.Test.YtkfmmiekajgdjaaGreatTBase
import Derived.Deep.Cut
import Derived.BigQuiet
namespace Go.Proofs.YtkfmmiekajgdjaaGreat
open Go.RowKit
attribute [local go_sem] Oper.semAt_some

theorem isNetwork_any (n k : Int) (w : World) : Calls Tryz.prog 29 #[.int .i64 n, .int .i64 k] w (fun e w' => e = .returned (.bool (decide (0 ≤ n) && decide (n < k))) ∧ w = w') := by
  go_enter Tryz.func29, Tryz.ntmps29
  by_cases h1 : 0 ≤ n
  · have d1 : decide (n ≥ 0) = true := decide_eq_true h1
    have d1' : decide (0 ≤ n) = true := decide_eq_true h1
    go_wp2
    go_ret
    exact ⟨by rw [d1', Bool.true_and]; rfl, rfl⟩
  · have d1 : decide (n ≥ 0) = false := decide_eq_false h1
    go_wp2
    go_ret
    first | exact ⟨rfl, rfl⟩ | exact ⟨by rw [show decide (0 ≤ n) = false from d1, Bool.false_and]; rfl, rfl⟩
def addAt (l : List Int) (i : Nat) (a : Int) : List Int := l.set i (l.getD i 0 + a)
theorem addAt_len (l : List Int) (i : Nat) (a : Int) : (addAt l i a).length = l.length := by unfold addAt; simp
set_option maxRecDepth 100000 in
set_option maxHeartbeats 4000000 in
theorem move_any (b V N : Nat) (l : List Int) (u d : Nat) (a : Int) (w : World) (hb : Blk w b 95 #[.slice (some ⟨V, 0, none⟩) N N]) (hv : Blk w V 3 (intsC l)) (_hne : b ≠ V) (hl : l.length = N) (_hN : N ≤ 8) (hu : u < N) (hd : d < N) (a0 : 0 ≤ a) (a1 : a ≤ 1000000000) (hs : ∀ i, i < N → -1000000000000 ≤ l.getD i 0 ∧ l.getD i 0 ≤ 1000000000000) :
    Calls Tryz.prog 30 #[.pointer (some ⟨b, 0, none⟩), .int .i64 (u : Nat), .int .i64 (d : Nat), .int .i64 a] w (fun e w' => e = .returned (.tuple #[]) ∧ Agr w w' [V] ∧ Blk w' V 3 (intsC (addAt (addAt l u a) d (-a)))) := by
  have HV := Lib.hid hv
  have HL := Lib.hid hl
  have b0 : w.cell? ⟨b, 0, none⟩ = some (.slice (some ⟨V, 0, none⟩) N N) := hb.cell 0
  have c0 : w.cell? ⟨V, u, none⟩ = some (.int .i64 (l.getD u 0)) := (hv.cell u).trans (intsC_get (by omega))
  have f0 := hv.frozen u
  have hsu := hs u hu
  have hsd := Lib.hid (hs d hd)
  clear hb hv hl hs
  obtain ⟨x, hx⟩ : ∃ x, l.getD u 0 = x := ⟨_, rfl⟩
  rw [hx] at c0 hsu
  have HX := Lib.hid hx
  clear hx
  have y1 : (0 : Int) ≤ (u : Int) := by omega
  have y2 : (u : Int) < (N : Int) := by omega
  have y3 : (0 : Int) ≤ (d : Int) := by omega
  have y4 : (d : Int) < (N : Int) := by omega
  have wx : IntKind.i64.wrap (x + a) = x + a := IntWalk.i64_in _ (by omega)
  go_enter Tryz.func30, Tryz.ntmps30
  go_wp2_with fail
  go_quiet (fail)
  go_upto_region 2 with (fail)
  obtain ⟨W1, hW1⟩ : ∃ W, W = (w.drewN nq).setCell ⟨V, u, none⟩ (.int .i64 (x + a)) := ⟨_, rfl⟩
  have HA1 := Lib.hid (show Agr w W1 [V] by rw [hW1]; exact ((Agr.refl w [V]).drewN _).set (List.mem_singleton.2 rfl))
  have HV1 : Hid (Blk W1 V 3 (intsC (addAt l u a))) := Lib.hid (by
    rw [hW1]
    have := (HV.out.drewN nq).set u (.int .i64 (x + a))
    rw [intsC_set] at this
    unfold addAt
    rw [HX.out]
    exact this)
  rw [← hW1]
  clear hW1 c0 f0 b0
  have HD1 := Lib.hid (show -1000000000000 ≤ (addAt l u a).getD d 0 ∧ (addAt l u a).getD d 0 ≤ 1001000000000 by
    unfold addAt
    by_cases e : u = d
    · subst e
      rw [HX.out]
      have h1 : (l.set u (x + a)).getD u 0 = x + a := by simp [List.getD_eq_getElem?_getD, HL.out, hu]
      rw [h1]
      omega
    · have h1 : (l.set u (l.getD u 0 + a)).getD d 0 = l.getD d 0 := by simp [List.getD_eq_getElem?_getD, List.getElem?_set_ne e]
      rw [h1]
      have := hsd.out
      omega)
  have c1 : W1.cell? ⟨V, d, none⟩ = some (.int .i64 ((addAt l u a).getD d 0)) := (HV1.out.cell d).trans (intsC_get (by rw [addAt_len, HL.out]; exact hd))
  have f1 := HV1.out.frozen d
  have hb1 := HD1.out
  obtain ⟨y, hy⟩ : ∃ y, (addAt l u a).getD d 0 = y := ⟨_, rfl⟩
  rw [hy] at c1 hb1
  have HY := Lib.hid hy
  have wy : IntKind.i64.wrap (y - a) = y - a := IntWalk.i64_in _ (by omega)
  clear hy HD1 hsd hsu wx
  have HA2 := Lib.hid (HA1.out.set (g := V) (i := d) (u := .int .i64 (y - a)) (by simp))
  have HV2 : Hid (Blk (W1.setCell ⟨V, d, none⟩ (.int .i64 (y - a))) V 3 (intsC (addAt (addAt l u a) d (-a)))) := Lib.hid (by
    have := HV1.out.set d (.int .i64 (y - a))
    rw [intsC_set] at this
    rw [show addAt (addAt l u a) d (-a) = (addAt l u a).set d (y - a) by
      show (addAt l u a).set d ((addAt l u a).getD d 0 + -a) = _
      rw [HY.out]
      rfl]
    exact this)
  clear HA1 HV1 HV hb1
  go_wp2
  go_end0
  exact ⟨rfl, HA2.out, HV2.out⟩
end Go.Proofs.YtkfmmiekajgdjaaGreat
