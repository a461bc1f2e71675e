/- Package tariff: Valid. -/
import Derived.Test.YtkfmmiekajgdjaaGreatWx43
import Derived.Test.YtkfmmiekajgdjaaGreatWf43
namespace Go.Proofs.YtkfmmiekajgdjaaGreat
open Go.RowKit
attribute [local go_sem] Oper.semAt_some

theorem all_art {l : List Art} (h : ∀ j, j < l.length → artA (getArt l j) = true) : l.all artA = true := by
  rw [List.all_eq_true]
  intro x hx
  obtain ⟨j, hj, rfl⟩ := List.getElem_of_mem hx
  have := h j hj
  simpa [getArt, hj] using this
theorem not_art {l : List Art} {j : Nat} (hj : j < l.length) (h : artA (getArt l j) = false) : l.all artA = false := by
  rw [List.all_eq_false]
  refine ⟨getArt l j, ?_, by simp [h]⟩
  have : getArt l j = l[j] := by simp [getArt, hj]
  rw [this]
  exact List.getElem_mem hj
set_option maxRecDepth 100000 in
set_option maxHeartbeats 16000000 in
theorem tariffValid_any (nm : ByteArray) (o : Option Addr) (ca : Nat) (l : List Art) (w : World) (h : Arts w o l) (hn : nm.size ≤ 9000000000000000000) (hl : l.length ≤ 9000000000000000000) : Calls Tryz.prog 39 #[.agg #[.string nm, .slice o l.length ca]] w (Ret (.bool (tarA nm l)) w) := by
  have HA := Lib.hid h
  clear h
  obtain ⟨V, hV⟩ : ∃ V, tarA nm l = V := ⟨_, rfl⟩
  rw [hV]
  have HV := Lib.hid (show ((nameA nm && decide ((l.length : Int) ≤ 12)) && (l.all artA && decide ((taxN l : Int) ≤ 1))) = V from hV)
  clear hV
  go_enter Tryz.func39, Tryz.ntmps39
  go_upto_region 2 with (fail)
  obtain ⟨wq, hwq⟩ : ∃ W, W = w.alloc (.cells #[.string nm, .slice o l.length ca] 24) := ⟨_, rfl⟩
  obtain ⟨W1, hW1⟩ : ∃ W, W = wq.alloc (.cells #[.int .i64 2, .string nm, .int .i64 3, .int .i64 0, .slice none 0 0] 135) := ⟨_, rfl⟩
  have hsq : wq.heap.size = w.heap.size + 1 := by rw [hwq, World.size_alloc]
  have HQ := Lib.hid (show Blk W1 w.heap.size 24 #[.string nm, .slice o l.length ca] by rw [hW1]; refine Blk.alloc ?_ _; rw [hwq]; exact Blk.new _ _ _)
  have HG := Lib.hid (show Blk W1 (w.heap.size + 1) 135 #[.int .i64 2, .string nm, .int .i64 3, .int .i64 0, .slice none 0 0] by rw [hW1, ← hsq]; exact Blk.new _ _ _)
  have HB := Lib.hid (show Below w.heap.size w W1 by rw [hW1, hwq]; exact below_alloc (below_alloc (Below.refl _ _) _) _)
  have hS1 : W1 = (w.alloc (.cells #[.string nm, .slice o l.length ca] 24)).alloc (.cells #[.int .i64 2, .string nm, .int .i64 3, .int .i64 0, .slice none 0 0] 135) := by rw [hW1, hwq]
  obtain ⟨g, hg⟩ : ∃ P, P = w.heap.size + 1 := ⟨_, rfl⟩
  obtain ⟨Q, hQ⟩ : ∃ Q, Q = w.heap.size := ⟨_, rfl⟩
  try rw [← hS1]
  try rw [← hg] at HG ⊢
  try rw [← hQ] at HQ ⊢
  clear hg hQ hS1 hW1 hwq hsq
  have x0 : W1.cell? ⟨g, 0, none⟩ = some (.int .i64 2) := HG.out.cell 0
  have x1 : W1.cell? ⟨g, 1, none⟩ = some (.string nm) := HG.out.cell 1
  have x2 : W1.cell? ⟨g, 2, none⟩ = some (.int .i64 3) := HG.out.cell 2
  have x3 : W1.cell? ⟨g, 3, none⟩ = some (.int .i64 0) := HG.out.cell 3
  have x4 : W1.cell? ⟨g, 4, none⟩ = some (.slice none 0 0) := HG.out.cell 4
  go_wp2_with fail
  refine (pValid_any nm W1.heap.size (W1.alloc (.cells #[.int .i64 2, .string nm, .int .i64 3, .int .i64 0, .slice none 0 0] 135)) hn (Blk.new _ _ _)).mono ?_
  rintro _ W2 ⟨rfl, hb⟩
  replace HQ := Lib.hid ((HQ.out.alloc _).later hb)
  replace HB := Lib.hid (below_step (below_alloc HB.out _) hb)
  clear hb x0 x1 x2 x3 x4 HG
  obtain ⟨b1, h1⟩ : ∃ b, nameA nm = b := ⟨_, rfl⟩
  rw [h1] at HV ⊢
  clear h1
  have q1 : W2.cell? ⟨Q, 1, none⟩ = some (.slice o l.length ca) := HQ.out.cell 1
  cases b1 with
  | false =>
    obtain rfl : false = V := by rw [← HV.out]; rfl
    go_wp2
    go_ret
    exact ⟨rfl, HB.out⟩
  | true =>
  by_cases h12 : 12 < l.length
  · have d12 : decide ((12 : Nat) < l.length) = true := decide_eq_true h12
    have d12' : decide ((12 : Int) < (l.length : Int)) = true := decide_eq_true (by omega)
    obtain rfl : false = V := by rw [← HV.out, decide_eq_false (show ¬ (l.length : Int) ≤ 12 by omega)]; rfl
    clear h12
    go_wp2
    go_ret
    exact ⟨rfl, HB.out⟩
  have d12 : decide ((12 : Nat) < l.length) = false := decide_eq_false h12
  have d12' : decide ((12 : Int) < (l.length : Int)) = false := decide_eq_false (by omega)
  replace HV := Lib.hid (show (l.all artA && decide ((taxN l : Int) ≤ 1)) = V by rw [← HV.out, decide_eq_true (show (l.length : Int) ≤ 12 by omega)]; rfl)
  have hN12 : l.length ≤ 12 := by omega
  clear h12 hl
  go_upto_region 6 with (fail)
  clear d12 d12' q1
  try go_wp2
  go_loopw [4, 24] (fun n i wr => ∃ k : Nat, k ≤ l.length ∧ i = .int .i64 k ∧ n = .int .i64 (taxN (l.take k) : Nat) ∧ Below w.heap.size w wr ∧ ∀ j, j < k → artA (getArt l j) = true) (fun _ i _ => l.length - (intOf i).toNat)
  case atStart => exact ⟨0, Nat.zero_le _, rfl, by simp [taxN], HB.out, fun j hj => absurd hj (Nat.not_lt_zero _)⟩
  case round =>
    obtain ⟨k, hk, rfl, rfl, hbw, hz⟩ := hrel
    obtain ⟨wA, rfl⟩ : ∃ wA : World, wA = wr := ⟨_, rfl⟩
    have HZ := Lib.hid hz
    have HBW := Lib.hid hbw
    clear hbw hz
    by_cases hlt : k < l.length
    · obtain ⟨b, off, ho, c0, c1, c2, c3, c4, c5, c6⟩ := HA.out k hlt
      have HTK := Lib.hid (taxN_take hlt)
      have HTN := Lib.hid (show taxN (l.take k) ≤ 12 by have := List.length_filter_le (fun a : Art => a.k == 6) (l.take k); unfold taxN; have h2 : (l.take k).length ≤ l.length := by simp; omega
                                                        omega)
      have HBAD := Lib.hid (fun h => not_art hlt h)
      have HALL := Lib.hid (fun (h : artA (getArt l k) = true) => show ∀ j, j < k + 1 → artA (getArt l j) = true from fun j hj => by
        by_cases e : j = k
        · subst e; exact h
        · exact HZ.out j (by omega))
      obtain ⟨x, hx⟩ : ∃ x, getArt l k = x := ⟨_, rfl⟩
      rw [hx] at c0 c1 c2 c3 c4 c5 c6 HTK HBAD HALL
      clear hx
      replace c0 := cell_kept HBW.out c0
      replace c1 := cell_kept HBW.out c1
      replace c2 := cell_kept HBW.out c2
      replace c3 := cell_kept HBW.out c3
      replace c4 := cell_kept HBW.out c4
      replace c5 := cell_kept HBW.out c5
      replace c6 := cell_kept HBW.out c6
      have hki : (k : Int) < (l.length : Int) := by omega
      rw [ho]
      obtain ⟨n, hn⟩ : ∃ n, taxN (l.take k) = n := ⟨_, rfl⟩
      rw [hn] at HTK HTN ⊢
      have hn12 : n ≤ 12 := HTN.out
      clear hn
      go_upto_region 8 with (fail)
      obtain ⟨W3, hW3⟩ : ∃ W, W = wA.alloc (.cells #[.int .i64 x.k, .int .i64 x.d, .int .i64 x.f, .int .i64 x.t, .int .i64 x.p, .int .i64 x.u, .int .i64 x.r] 72) := ⟨_, rfl⟩
      have HX := Lib.hid (show Blk W3 wA.heap.size 72 #[.int .i64 x.k, .int .i64 x.d, .int .i64 x.f, .int .i64 x.t, .int .i64 x.p, .int .i64 x.u, .int .i64 x.r] by rw [hW3]; exact Blk.new _ _ _)
      replace HBW := Lib.hid (show Below w.heap.size w W3 by rw [hW3]; exact below_alloc HBW.out _)
      try rw [← hW3]
      clear hW3 c0 c1 c2 c3 c4 c5 c6
      obtain ⟨G, hG⟩ : ∃ G, wA.heap.size = G := ⟨_, rfl⟩
      try rw [hG] at HX ⊢
      clear hG
      have x0 : W3.cell? ⟨G, 0, none⟩ = some (.int .i64 x.k) := HX.out.cell 0
      have x1 : W3.cell? ⟨G, 1, none⟩ = some (.int .i64 x.d) := HX.out.cell 1
      have x2 : W3.cell? ⟨G, 2, none⟩ = some (.int .i64 x.f) := HX.out.cell 2
      have x3 : W3.cell? ⟨G, 3, none⟩ = some (.int .i64 x.t) := HX.out.cell 3
      have x4 : W3.cell? ⟨G, 4, none⟩ = some (.int .i64 x.p) := HX.out.cell 4
      have x5 : W3.cell? ⟨G, 5, none⟩ = some (.int .i64 x.u) := HX.out.cell 5
      have x6 : W3.cell? ⟨G, 6, none⟩ = some (.int .i64 x.r) := HX.out.cell 6
      go_wp2_with fail
      refine (validArticleT_any x W3).mono ?_
      rintro _ W4 ⟨rfl, hb⟩
      replace HX := Lib.hid (HX.out.later hb)
      replace HBW := Lib.hid (below_step HBW.out hb)
      clear hb x0 x1 x2 x3 x4 x5 x6
      have x0 : W4.cell? ⟨G, 0, none⟩ = some (.int .i64 x.k) := HX.out.cell 0
      obtain ⟨b1, h1⟩ : ∃ b, artA x = b := ⟨_, rfl⟩
      rw [h1] at HBAD HALL ⊢
      clear h1
      cases b1 with
      | false =>
        obtain rfl : false = V := by rw [← HV.out, HBAD.out rfl]; rfl
        go_wp2
        go_ret
        exact ⟨rfl, HBW.out⟩
      | true =>
      by_cases k6 : x.k = 6
      · have d6 : (x.k == 6) = true := by simpa using k6
        have HT2 := Lib.hid (show taxN (l.take (k + 1)) = n + 1 by rw [HTK.out, if_pos k6])
        clear k6
        go_wp2
        go_roundw
        case rel => exact ⟨k + 1, hlt, by go_num, by rw [HT2.out]; go_num, HBW.out, HALL.out (by first | rfl | trivial)⟩
        case measure => simp [intOf]; omega
      · have d6 : (x.k == 6) = false := by simpa using k6
        have HT2 := Lib.hid (show taxN (l.take (k + 1)) = n by rw [HTK.out, if_neg k6]; rfl)
        clear k6
        go_wp2
        go_roundw
        case rel => exact ⟨k + 1, hlt, by go_num, by rw [HT2.out], HBW.out, HALL.out (by first | rfl | trivial)⟩
        case measure => simp [intOf]; omega
    · obtain rfl : k = l.length := by omega
      rw [List.take_length]
      have HV2 := Lib.hid (show decide ((taxN l : Int) ≤ 1) = V by rw [← HV.out, all_art HZ.out]; rfl)
      obtain ⟨n, hn⟩ : ∃ n, taxN l = n := ⟨_, rfl⟩
      rw [hn] at HV2 ⊢
      clear hn
      obtain rfl := HV2.out
      go_wp2
      go_ret
      exact ⟨rfl, HBW.out⟩
end Go.Proofs.YtkfmmiekajgdjaaGreat