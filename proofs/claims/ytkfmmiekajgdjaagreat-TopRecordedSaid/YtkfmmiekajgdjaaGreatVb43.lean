/- Package bill: start and energy. -/
import Derived.Test.YtkfmmiekajgdjaaGreatVa43
namespace Go.Proofs.YtkfmmiekajgdjaaGreat
open Go.RowKit
attribute [local go_sem] Oper.semAt_some

/-- An amount, or the panic that leaves a bill. -/
def CostOut (V : Int) (w : World) (e : Ending) (w' : World) : Prop := Below w.heap.size w w' ∧ ((V ≤ 1000000000 ∧ e = .returned (.int .i64 V)) ∨ (1000000000 < V ∧ e = .panicked [billP 3]))
theorem cost_yes {V : Int} {w w' : World} (hb : Below w.heap.size w w') (h : V ≤ 1000000000) : CostOut V w (.returned (.int .i64 V)) w' := ⟨hb, .inl ⟨h, rfl⟩⟩
theorem cost_no {V : Int} {w w' : World} (hb : Below w.heap.size w w') (h : 1000000000 < V) : CostOut V w (.panicked [billP 3]) w' := ⟨hb, .inr ⟨h, rfl⟩⟩
set_option maxRecDepth 100000 in
set_option maxHeartbeats 8000000 in
theorem start_any (w : World) (g : Nat) (a : Art) (c : ClA) (s : SesA) (h : BilM w g a c s) (ha : artA a = true) (hd : datA c.off c.chg c.hol = true) (hs : SesOk s) : Calls Tryz.prog 85 #[.pointer (some ⟨g, 0, none⟩)] w (CostOut (if appA a c s.f then a.p else 0) w) := by
  have HX := Lib.hid h
  have HP := Lib.hid (art_price ha)
  have HC := Lib.hid (billApplies_any w g a c s s.f h ha hd hs.f0 (by have := hs.ft; have := hs.t1; omega))
  have HY := Lib.hid (fun (w' : World) V => cost_yes (V := V) (w := w) (w' := w'))
  clear h ha hd hs
  obtain ⟨V, hV⟩ : ∃ V, (if appA a c s.f then a.p else 0) = V := ⟨_, rfl⟩
  rw [hV]
  have HV := Lib.hid hV
  clear hV
  obtain ⟨OUT, hO⟩ : ∃ O, CostOut V w = O := ⟨_, rfl⟩
  replace HY := Lib.hid (fun (w' : World) => HY.out w' V)
  rw [hO] at HY ⊢
  clear hO
  obtain ⟨d, hd⟩ : ∃ d, appA a c s.f = d := ⟨_, rfl⟩
  rw [hd] at HV HC
  clear hd
  have q10 : w.cell? ⟨g, 10, none⟩ = some (.int .i64 s.f) := HX.out.blk.cell 10
  go_enter Tryz.func85, Tryz.ntmps85
  go_wp2_with fail
  refine HC.out.mono ?_
  rintro _ w2 ⟨rfl, hb⟩
  have q4 : w2.cell? ⟨g, 4, none⟩ = some (.int .i64 a.p) := (HX.out.later hb).blk.cell 4
  have HB := Lib.hid hb
  clear hb HC q10
  cases d with
  | true =>
    obtain rfl : a.p = V := HV.out
    go_wp2
    exact HY.out _ HB.out (by have := HP.out; omega)
  | false =>
    obtain rfl : 0 = V := HV.out
    go_wp2
    exact HY.out _ HB.out (by omega)
set_option maxRecDepth 100000 in
set_option maxHeartbeats 16000000 in
theorem energyB_any (w : World) (g : Nat) (a : Art) (c : ClA) (s : SesA) (h : BilM w g a c s) (ha : artA a = true) (hd : datA c.off c.chg c.hol = true) (hs : SesOk s) : Calls Tryz.prog 86 #[.pointer (some ⟨g, 0, none⟩)] w (CostOut ((2 * a.p * engA a c s.l + 1000) / 2000) w) := by
  have HX := Lib.hid h
  have HS := Lib.hid hs
  have HP := Lib.hid (art_price ha)
  have HY := Lib.hid (fun (w' : World) V => cost_yes (V := V) (w := w) (w' := w'))
  have HN := Lib.hid (fun (w' : World) V => cost_no (V := V) (w := w) (w' := w'))
  clear h hs
  obtain ⟨V, hV⟩ : ∃ V, (2 * a.p * engA a c s.l + 1000) / 2000 = V := ⟨_, rfl⟩
  rw [hV]
  have HV := Lib.hid hV
  clear hV
  obtain ⟨OUT, hO⟩ : ∃ O, CostOut V w = O := ⟨_, rfl⟩
  replace HY := Lib.hid (fun (w' : World) => HY.out w' V)
  replace HN := Lib.hid (fun (w' : World) => HN.out w' V)
  rw [hO] at HY HN ⊢
  clear hO
  have q13 : w.cell? ⟨g, 13, none⟩ = some (.slice s.o s.l.length s.cap) := HX.out.blk.cell 13
  have hn48 : (s.l.length : Int) ≤ 48 := by have := HS.out.n; omega
  go_enter Tryz.func86, Tryz.ntmps86
  go_wp2
  clear q13
  go_loopw [3, 12] (fun v i wr => ∃ k : Nat, k ≤ s.l.length ∧ i = .int .i64 k ∧ v = .int .i64 (engA a c (s.l.take k)) ∧ Below w.heap.size w wr) (fun _ i _ => s.l.length - (intOf i).toNat)
  case atStart => exact ⟨0, Nat.zero_le _, rfl, rfl, Below.refl _ _⟩
  case round =>
    obtain ⟨k, hk, rfl, rfl, hb⟩ := hrel
    obtain ⟨wA, rfl⟩ : ∃ wA : World, wA = wr := ⟨_, rfl⟩
    have HBR := Lib.hid hb
    clear hb
    have HEB := Lib.hid (engA_bound a c (fun x hx => ⟨(HS.out.all x hx).2.2.1, (HS.out.all x hx).2.2.2⟩) k hk)
    by_cases hlt : k < s.l.length
    · have HET := Lib.hid (engA_take (a := a) (c := c) hlt)
      obtain ⟨gx, fx, hgo, x0, x1⟩ := (HX.out.sls.later HBR.out) k hlt
      have HMEM := Lib.hid (HS.out.all (s.l.getD k (0, 0)) (by rw [List.getD_eq_getElem?_getD, List.getElem?_eq_getElem hlt]; exact List.getElem_mem hlt))
      obtain ⟨x, hx⟩ : ∃ x, s.l.getD k (0, 0) = x := ⟨_, rfl⟩
      rw [hx] at HET HMEM x0 x1
      clear hx
      obtain ⟨E, hE⟩ : ∃ E, engA a c (s.l.take k) = E := ⟨_, rfl⟩
      rw [hE] at HET HEB ⊢
      clear hE
      rw [hgo]
      have y1 : (0 : Int) ≤ (k : Int) := by omega
      have y2 : (k : Int) < (s.l.length : Int) := by omega
      have e0 : 0 ≤ E := HEB.out.1
      have e1 : E ≤ 480000 := by have := HEB.out.2; omega
      have e2 : 0 ≤ x.2 := HMEM.out.2.2.1
      have e3 : x.2 ≤ 10000 := HMEM.out.2.2.2
      have hw1 : IntKind.i64.wrap (E + x.2) = E + x.2 := IntWalk.i64_in _ (by omega)
      go_upto_region 5 with (fail)
      obtain ⟨W3, hW3⟩ : ∃ W, W = wA.alloc (.cells #[.int .i64 x.1, .int .i64 x.2] 50) := ⟨_, rfl⟩
      have HQ := Lib.hid (show Blk W3 wA.heap.size 50 #[.int .i64 x.1, .int .i64 x.2] by rw [hW3]; exact Blk.new _ _ _)
      have HB3 := Lib.hid (show Below w.heap.size w W3 by rw [hW3]; exact below_alloc HBR.out _)
      try rw [← hW3]
      clear hW3 x0 x1
      obtain ⟨G, hG⟩ : ∃ G, wA.heap.size = G := ⟨_, rfl⟩
      try rw [hG] at HQ ⊢
      clear hG
      have x0 : W3.cell? ⟨G, 0, none⟩ = some (.int .i64 x.1) := HQ.out.cell 0
      have HC := Lib.hid (billApplies_any W3 g a c s x.1 (HX.out.later HB3.out) ha hd (by have := HMEM.out; have := HS.out.f0; omega) (by have := HMEM.out; have := HS.out.et; have := HS.out.t1; omega))
      obtain ⟨d, hdd⟩ : ∃ d, appA a c x.1 = d := ⟨_, rfl⟩
      rw [hdd] at HET HC
      clear hdd
      go_wp2_with fail
      refine HC.out.mono ?_
      rintro _ W4 ⟨rfl, hb⟩
      have x1 : W4.cell? ⟨G, 1, none⟩ = some (.int .i64 x.2) := (HQ.out.later hb).cell 1
      have HB4 := Lib.hid (below_step HB3.out hb)
      clear hb HC x0
      cases d with
      | true =>
        have HE2 := Lib.hid (show engA a c (s.l.take (k + 1)) = E + x.2 from HET.out)
        go_wp2
        go_roundw
        case rel => exact ⟨k + 1, hlt, by go_num, by rw [HE2.out], HB4.out⟩
        case measure => simp [intOf]; omega
      | false =>
        have HE2 := Lib.hid (show engA a c (s.l.take (k + 1)) = E from HET.out)
        go_wp2
        go_roundw
        case rel => exact ⟨k + 1, hlt, by go_num, by rw [HE2.out], HB4.out⟩
        case measure => simp [intOf]; omega
    · obtain rfl : k = s.l.length := by omega
      rw [List.take_length] at HEB ⊢
      have q4 : wA.cell? ⟨g, 4, none⟩ = some (.int .i64 a.p) := (HX.out.later HBR.out).blk.cell 4
      obtain ⟨E, hE⟩ : ∃ E, engA a c s.l = E := ⟨_, rfl⟩
      rw [hE] at HEB HV ⊢
      clear hE
      by_cases hv : (2 * a.p * E + 1000) / 2000 ≤ 1000000000
      · have HVB := Lib.hid (show V ≤ 1000000000 by rw [← HV.out]; exact hv)
        have HC := Lib.hid (times_ok a.p E wA HP.out.1 HP.out.2 HEB.out.1 (by have := HEB.out.2; omega) hv)
        rw [HV.out] at HC
        clear hv
        go_wp2_with fail
        refine HC.out.mono ?_
        rintro _ W4 ⟨hb, rfl⟩
        have HB4 := Lib.hid (below_step HBR.out hb)
        clear hb q4 HC
        go_wp2_with fail
        refine (must_ok V W4).mono ?_
        rintro _ _ ⟨rfl, rfl⟩
        go_wp2
        exact HY.out _ HB4.out HVB.out
      · have HVB := Lib.hid (show 1000000000 < V by rw [← HV.out]; omega)
        have HC := Lib.hid (times_no a.p E wA HP.out.1 HP.out.2 HEB.out.1 (by have := HEB.out.2; omega) (by omega))
        clear hv
        go_wp2_with fail
        refine HC.out.mono ?_
        rintro _ W4 ⟨hb, rfl⟩
        have HB4 := Lib.hid (below_step HBR.out hb)
        clear hb q4 HC
        go_wp2_with fail
        refine (must_no 0 3 W4 (by decide)).mono ?_
        rintro _ _ ⟨rfl, rfl⟩
        go_wp2
        exact ⟨rfl, HN.out _ HB4.out HVB.out⟩
end Go.Proofs.YtkfmmiekajgdjaaGreat