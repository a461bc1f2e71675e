/- Package auditor: tariffed. -/
import Derived.Test.YtkfmmiekajgdjaaGreatMa43
namespace Go.Proofs.YtkfmmiekajgdjaaGreat
open Go.RowKit
attribute [local go_sem] Oper.semAt_some

def taxN (l : List Art) : Nat := (l.filter fun a => a.k == 6).length
def rateN (l : List Art) : Int := l.foldl (fun r a => if a.k = 6 then a.p else r) 0
def tarA (nm : ByteArray) (l : List Art) : Bool := (nameA nm && decide ((l.length : Int) ≤ 12)) && (l.all artA && decide ((taxN l : Int) ≤ 1))
theorem take_art {l : List Art} {k : Nat} (h : k < l.length) : l.take (k + 1) = l.take k ++ [getArt l k] := by
  rw [List.take_succ_eq_append_getElem h]
  simp [getArt, h]
theorem taxN_take {l : List Art} {k : Nat} (h : k < l.length) : taxN (l.take (k + 1)) = taxN (l.take k) + if (getArt l k).k = 6 then 1 else 0 := by
  rw [take_art h]
  unfold taxN
  by_cases e : (getArt l k).k = 6 <;> simp [e]
theorem rateN_take {l : List Art} {k : Nat} (h : k < l.length) : rateN (l.take (k + 1)) = if (getArt l k).k = 6 then (getArt l k).p else rateN (l.take k) := by
  rw [take_art h]
  unfold rateN
  simp
theorem taxN_le (l : List Art) (k : Nat) : taxN (l.take k) ≤ k := by
  have h1 : taxN (l.take k) ≤ (l.take k).length := List.length_filter_le _ _
  rw [List.length_take] at h1
  omega
theorem all_bad {l : List Art} {k : Nat} (h : k < l.length) (e : artA (getArt l k) = false) : l.all artA = false := by
  rw [List.all_eq_false]
  refine ⟨l[k], List.getElem_mem h, ?_⟩
  have : getArt l k = l[k] := by simp [getArt, h]
  rw [← this, e]
  simp
theorem all_good {l : List Art} (h : ∀ k, k < l.length → artA (getArt l k) = true) : l.all artA = true := by
  rw [List.all_eq_true]
  intro a ha
  obtain ⟨k, hk⟩ := List.getElem?_of_mem ha
  have hlt := (List.getElem?_eq_some_iff.1 hk).1
  have := h k hlt
  rwa [show getArt l k = a by simp [getArt, hk]] at this
/-- What tariffed leaves. -/
def TarOut (w0 w : World) (g : Nat) (c : ClA) (f : SesA) (b : BilA) (e : Ending) (w' : World) : Prop :=
  Agr w w' [g] ∧ ((tarA c.nm c.arts = true ∧ e = .returned (.tuple #[]) ∧ ExM w0 w' g c f b (rateN c.arts)) ∨ (tarA c.nm c.arts = false ∧ e = .panicked [wrongP 2] ∧ ∃ r, ExM w0 w' g c f b r))

set_option maxRecDepth 100000 in
set_option maxHeartbeats 16000000 in
theorem tariffed_any (w0 w : World) (g : Nat) (c : ClA) (f : SesA) (b : BilA) (h : ExM w0 w g c f b 0) : Calls Tryz.prog 46 #[.pointer (some ⟨g, 0, none⟩)] w (TarOut w0 w g c f b) := by
  have HX := Lib.hid h
  clear h
  obtain ⟨V, hV⟩ : ∃ V, tarA c.nm c.arts = V := ⟨_, rfl⟩
  have HV := Lib.hid hV
  clear hV
  have HV0 := Lib.hid (show ((nameA c.nm && decide ((c.arts.length : Int) ≤ 12)) && (c.arts.all artA && decide ((taxN c.arts : Int) ≤ 1))) = V from HV.out)
  have HNO := Lib.hid (fun (w' : World) (r : Int) (hv : V = false) (ha : Agr w w' [g]) (hx : ExM w0 w' g c f b r) => show TarOut w0 w g c f b (.panicked [wrongP 2]) w' from ⟨ha, .inr ⟨by rw [HV.out]; exact hv, rfl, r, hx⟩⟩)
  have HOK := Lib.hid (fun (w' : World) (hv : V = true) (ha : Agr w w' [g]) (hx : ExM w0 w' g c f b (rateN c.arts)) => show TarOut w0 w g c f b (.returned (.tuple #[])) w' from ⟨ha, .inl ⟨by rw [HV.out]; exact hv, rfl, hx⟩⟩)
  clear HV
  go_enter Tryz.func46, Tryz.ntmps46
  have c0 : w.cell? ⟨g, 0, none⟩ = some (.string c.nm) := HX.out.blk.cell 0
  have c1 : w.cell? ⟨g, 1, none⟩ = some (.slice c.oa c.arts.length c.ca) := HX.out.blk.cell 1
  go_wp2_with fail
  refine (isNameA_any c.nm w HX.out.cl.nm).mono ?_
  rintro _ _ ⟨rfl, rfl⟩
  obtain ⟨b1, hb1⟩ : ∃ b, nameA c.nm = b := ⟨_, rfl⟩
  rw [hb1] at HV0 ⊢
  clear hb1
  cases b1 with
  | false =>
    obtain rfl : false = V := by rw [← HV0.out]; rfl
    go_wp2_with fail
    refine (need_no 2 w).mono ?_
    rintro _ _ ⟨rfl, rfl⟩
    go_wp2
    exact ⟨rfl, HNO.out _ _ (by trivial) (Agr.refl _ _) HX.out⟩
  | true =>
  obtain ⟨b2, hb2⟩ : ∃ b, decide ((c.arts.length : Int) ≤ 12) = b := ⟨_, rfl⟩
  rw [hb2] at HV0
  have HL := Lib.hid hb2
  cases b2 with
  | false =>
    obtain rfl : false = V := by rw [← HV0.out]; rfl
    go_wp2_with fail
    refine (need_no 2 w).mono ?_
    rintro _ _ ⟨rfl, rfl⟩
    go_wp2
    exact ⟨rfl, HNO.out _ _ (by trivial) (Agr.refl _ _) HX.out⟩
  | true =>
  have hl12 : c.arts.length ≤ 12 := by have := of_decide_eq_true HL.out; omega
  have HV1 := Lib.hid (show (c.arts.all artA && decide ((taxN c.arts : Int) ≤ 1)) = V by rw [← HV0.out]; rfl)
  clear HV0 HL
  go_wp2_with fail
  refine (need_ok 2 w).mono ?_
  rintro _ _ ⟨rfl, rfl⟩
  clear hb2
  go_wp2
  have HI0 := Lib.hid (show ExM w0 w g c f b (rateN (c.arts.take 0)) from HX.out)
  clear c0 c1
  go_loopw [2, 30] (fun t i wr => ∃ k : Nat, k ≤ c.arts.length ∧ i = .int .i64 k ∧ t = .int .i64 (taxN (c.arts.take k) : Nat) ∧ (∀ j, j < k → artA (getArt c.arts j) = true) ∧ Agr w wr [g] ∧ ExM w0 wr g c f b (rateN (c.arts.take k))) (fun _ i _ => c.arts.length - (intOf i).toNat)
  case atStart => exact ⟨0, Nat.zero_le _, rfl, rfl, fun j hj => absurd hj (Nat.not_lt_zero _), Agr.refl _ _, HI0.out⟩
  case round =>
    obtain ⟨k, hk, rfl, rfl, hz, hag, hx⟩ := hrel
    obtain ⟨wA, rfl⟩ : ∃ wA : World, wA = wr := ⟨_, rfl⟩
    have HZ := Lib.hid hz
    have HAG := Lib.hid hag
    have HXA := Lib.hid hx
    clear hz hag hx HI0 HX
    have htl := taxN_le c.arts k
    by_cases hlt : k < c.arts.length
    · have HTX := Lib.hid (taxN_take hlt)
      have HRT := Lib.hid (rateN_take hlt)
      have HBAD := Lib.hid (fun h => all_bad hlt h)
      obtain ⟨ga, fa, hgo, a0, a1, a2, a3, a4, a5, a6⟩ := HXA.out.here.arts k hlt
      obtain ⟨a, ha⟩ : ∃ a, getArt c.arts k = a := ⟨_, rfl⟩
      have HAK := Lib.hid ha
      rw [ha] at a0 a1 a2 a3 a4 a5 a6 HTX HRT HBAD
      clear ha
      obtain ⟨tn, htn⟩ : ∃ t, taxN (c.arts.take k) = t := ⟨_, rfl⟩
      rw [htn] at htl HTX ⊢
      clear htn
      rw [hgo]
      have y1 : (0 : Int) ≤ (k : Int) := by omega
      have y2 : (k : Int) < (c.arts.length : Int) := by omega
      go_upto_region 5 with (fail)
      obtain ⟨W1, hW1⟩ : ∃ W1, W1 = wA.alloc (.cells #[.int .i64 a.k, .int .i64 a.d, .int .i64 a.f, .int .i64 a.t, .int .i64 a.p, .int .i64 a.u, .int .i64 a.r] 72) := ⟨_, rfl⟩
      have HQ := Lib.hid (show Blk W1 wA.heap.size 72 #[.int .i64 a.k, .int .i64 a.d, .int .i64 a.f, .int .i64 a.t, .int .i64 a.p, .int .i64 a.u, .int .i64 a.r] by rw [hW1]; exact Blk.new _ _ _)
      have HB1 := Lib.hid (show Below wA.heap.size wA W1 by rw [hW1]; exact below_alloc (Below.refl _ _) _)
      rw [← hW1]
      clear hW1 a0 a1 a2 a3 a4 a5 a6
      replace HXA := Lib.hid (HXA.out.later HB1.out)
      replace HAG := Lib.hid (HAG.out.later HB1.out)
      clear HB1
      obtain ⟨Q, hQ⟩ : ∃ B, wA.heap.size = B := ⟨_, rfl⟩
      rw [hQ] at HQ ⊢
      clear hQ
      have a0 : W1.cell? ⟨Q, 0, none⟩ = some (.int .i64 a.k) := HQ.out.cell 0
      have a1 : W1.cell? ⟨Q, 1, none⟩ = some (.int .i64 a.d) := HQ.out.cell 1
      have a2 : W1.cell? ⟨Q, 2, none⟩ = some (.int .i64 a.f) := HQ.out.cell 2
      have a3 : W1.cell? ⟨Q, 3, none⟩ = some (.int .i64 a.t) := HQ.out.cell 3
      have a4 : W1.cell? ⟨Q, 4, none⟩ = some (.int .i64 a.p) := HQ.out.cell 4
      have a5 : W1.cell? ⟨Q, 5, none⟩ = some (.int .i64 a.u) := HQ.out.cell 5
      have a6 : W1.cell? ⟨Q, 6, none⟩ = some (.int .i64 a.r) := HQ.out.cell 6
      go_wp2_with fail
      refine (validArticleA_any a W1).mono ?_
      rintro _ W2 ⟨rfl, hb⟩
      replace HXA := Lib.hid (HXA.out.later hb)
      replace HAG := Lib.hid (HAG.out.later hb)
      replace HQ := Lib.hid (HQ.out.later hb)
      clear hb a0 a1 a2 a3 a4 a5 a6
      obtain ⟨b1, hb1⟩ : ∃ b, artA a = b := ⟨_, rfl⟩
      rw [hb1] at HBAD ⊢
      have HB1 := Lib.hid hb1
      clear hb1
      cases b1 with
      | false =>
        obtain rfl : false = V := by rw [← HV1.out, HBAD.out rfl]; rfl
        go_wp2_with fail
        refine (need_no 2 W2).mono ?_
        rintro _ _ ⟨rfl, rfl⟩
        go_wp2
        exact ⟨rfl, HNO.out _ _ (by trivial) HAG.out HXA.out⟩
      | true =>
      have HZ2 := Lib.hid (show ∀ j, j < k + 1 → artA (getArt c.arts j) = true from fun j hj => by
        by_cases e : j = k
        · subst e; rw [HAK.out]; exact HB1.out
        · exact HZ.out j (by omega))
      go_wp2_with fail
      refine (need_ok 2 W2).mono ?_
      rintro _ _ ⟨rfl, rfl⟩
      have a0 : W2.cell? ⟨Q, 0, none⟩ = some (.int .i64 a.k) := HQ.out.cell 0
      have a4 : W2.cell? ⟨Q, 4, none⟩ = some (.int .i64 a.p) := HQ.out.cell 4
      by_cases h6 : a.k = 6
      · have hd : (a.k == 6) = true := by simpa using h6
        rw [if_pos h6] at HTX HRT
        have HN := Lib.hid (show ExM w0 (W2.setCell ⟨g, 23, none⟩ (.int .i64 a.p)) g c f b (rateN (c.arts.take (k + 1))) from by rw [HRT.out]; exact HXA.out.set (by simp))
        have HA2 := Lib.hid (HAG.out.trans (agr_set (i := 23) (u := .int .i64 a.p)) (fun _ h => h))
        have g0 : W2.cell? ⟨g, 23, none⟩ = some (.int .i64 (rateN (c.arts.take k))) := HXA.out.blk.cell 23
        have g1 := HXA.out.blk.frozen 23
        clear h6
        go_wp2
        go_roundw
        case rel => exact ⟨k + 1, hlt, by go_num, by rw [HTX.out]; go_num, HZ2.out, HA2.out, HN.out⟩
        case measure => simp [intOf]; omega
      · have hd : (a.k == 6) = false := by simpa using h6
        rw [if_neg h6] at HTX HRT
        have HN := Lib.hid (show ExM w0 W2 g c f b (rateN (c.arts.take (k + 1))) from by rw [HRT.out]; exact HXA.out)
        clear h6
        go_wp2
        go_roundw
        case rel => exact ⟨k + 1, hlt, by go_num, by rw [HTX.out]; go_num, HZ2.out, HAG.out, HN.out⟩
        case measure => simp [intOf]; omega
    · obtain rfl : k = c.arts.length := by omega
      rw [List.take_length] at HXA ⊢
      have HV2 := Lib.hid (show decide ((taxN c.arts : Int) ≤ 1) = V by rw [← HV1.out, all_good HZ.out]; rfl)
      rw [List.take_length] at htl
      obtain ⟨b1, hb1⟩ : ∃ b, decide ((taxN c.arts : Int) ≤ 1) = b := ⟨_, rfl⟩
      rw [hb1] at HV2
      cases b1 with
      | false =>
        obtain rfl : false = V := HV2.out
        go_wp2_with fail
        refine (need_no 2 wA).mono ?_
        rintro _ _ ⟨rfl, rfl⟩
        go_wp2
        exact ⟨rfl, HNO.out _ _ (by trivial) HAG.out HXA.out⟩
      | true =>
        obtain rfl : true = V := HV2.out
        go_wp2_with fail
        refine (need_ok 2 wA).mono ?_
        rintro _ _ ⟨rfl, rfl⟩
        clear hb1
        go_wp2
        go_end0
        exact HOK.out _ (by trivial) HAG.out HXA.out
end Go.Proofs.YtkfmmiekajgdjaaGreat