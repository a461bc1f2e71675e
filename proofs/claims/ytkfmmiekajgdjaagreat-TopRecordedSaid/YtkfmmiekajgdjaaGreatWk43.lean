/- Package auditor: price. -/
import Derived.Test.YtkfmmiekajgdjaaGreatMb43
namespace Go.Proofs.YtkfmmiekajgdjaaGreat
open Go.RowKit
attribute [local go_sem] Oper.semAt_some

/-- The lines of the first k articles. -/
def linA (c : ClA) (s : SesA) : Nat → List (Int × Int)
  | 0 => []
  | k + 1 => if (getArt c.arts k).k = 5 ∨ (getArt c.arts k).k = 6 then linA c s k else linA c s k ++ [((k : Int), costA (getArt c.arts k) c s)]
theorem linA_len (c : ClA) (s : SesA) : ∀ k, (linA c s k).length ≤ k
  | 0 => Nat.le_refl _
  | k + 1 => by
    have := linA_len c s k
    unfold linA
    split
    · omega
    · simp; exact this
def linOk (c : ClA) (s : SesA) : Bool := (linA c s c.arts.length).all fun x => decide (x.2 ≤ 1000000000)
theorem linA_sub (c : ClA) (s : SesA) {k : Nat} : ∀ {n : Nat}, k ≤ n → ∀ x ∈ linA c s k, x ∈ linA c s n
  | 0, h, x, hx => by obtain rfl : k = 0 := by omega
                      exact hx
  | n + 1, h, x, hx => by
    by_cases e : k = n + 1
    · subst e; exact hx
    · have := linA_sub c s (n := n) (by omega) x hx
      unfold linA
      split
      · exact this
      · exact List.mem_append_left _ this
theorem lin_bad {c : ClA} {s : SesA} {k : Nat} {x : Int} (h : k < c.arts.length) (h5 : ¬ ((getArt c.arts k).k = 5 ∨ (getArt c.arts k).k = 6)) (hx : costA (getArt c.arts k) c s = x) (e : decide (x ≤ 1000000000) = false) : linOk c s = false := by
  unfold linOk
  rw [List.all_eq_false]
  refine ⟨((k : Int), x), linA_sub c s (k := k + 1) h _ ?_, by rw [e]; simp⟩
  unfold linA
  rw [if_neg h5, hx]
  exact List.mem_append_right _ (by simp)
/-- What price leaves. -/
def PriceOut (w0 w : World) (g : Nat) (c : ClA) (s : SesA) (r : Int) (e : Ending) (w' : World) : Prop :=
  Agr w w' [g] ∧ ((linOk c s = true ∧ e = .returned (.tuple #[]) ∧ ∃ ol cl, ExM w0 w' g c s ⟨ol, cl, linA c s c.arts.length, 0, 0, 0⟩ r ∧ TwosS [g] w' ol (linA c s c.arts.length)) ∨ (linOk c s = false ∧ e = .panicked [wrongP 4] ∧ ∃ b, ExM w0 w' g c s b r))

set_option maxRecDepth 100000 in
set_option maxHeartbeats 16000000 in
theorem price_any (w0 w : World) (g : Nat) (c : ClA) (s : SesA) (r : Int) (h : ExM w0 w g c s BilA.zero r) (hsl : TwosS [g] w s.o s.l) (hd : datA c.off c.chg c.hol = true) (hl12 : c.arts.length ≤ 12) (ha : ∀ k, k < c.arts.length → artA (getArt c.arts k) = true) (hs : SesOk s) : Calls Tryz.prog 50 #[.pointer (some ⟨g, 0, none⟩)] w (PriceOut w0 w g c s r) := by
  have HX := Lib.hid h
  have HSL := Lib.hid hsl
  have HS := Lib.hid hs
  have HA := Lib.hid ha
  clear h hsl hs ha
  have HNO := Lib.hid (fun (w' : World) (b : BilA) (hv : linOk c s = false) (hag : Agr w w' [g]) (hx : ExM w0 w' g c s b r) => show PriceOut w0 w g c s r (.panicked [wrongP 4]) w' from ⟨hag, .inr ⟨hv, rfl, b, hx⟩⟩)
  have HOK := Lib.hid (fun (w' : World) ol cl (hv : linOk c s = true) (hag : Agr w w' [g]) (hx : ExM w0 w' g c s ⟨ol, cl, linA c s c.arts.length, 0, 0, 0⟩ r) (ht : TwosS [g] w' ol (linA c s c.arts.length)) => show PriceOut w0 w g c s r (.returned (.tuple #[])) w' from ⟨hag, .inl ⟨hv, rfl, ol, cl, hx, ht⟩⟩)
  obtain ⟨OUT, hOUT⟩ : ∃ O, PriceOut w0 w g c s r = O := ⟨_, rfl⟩
  rw [hOUT] at HNO HOK ⊢
  clear hOUT
  have hgw : g < w.heap.size := HX.out.blk.lt
  go_enter Tryz.func50, Tryz.ntmps50
  have x1 : w.cell? ⟨g, 1, none⟩ = some (.slice c.oa c.arts.length c.ca) := HX.out.blk.cell 1
  go_wp2
  clear x1
  have HI0 := Lib.hid (show ExM w0 w g c s ⟨none, 0, linA c s 0, 0, 0, 0⟩ r from HX.out)
  go_loopw [12] (fun i wr => ∃ (k : Nat) (ol : Option Addr) (cl : Nat), k ≤ c.arts.length ∧ i = .int .i64 k ∧ Agr w wr [g] ∧ ExM w0 wr g c s ⟨ol, cl, linA c s k, 0, 0, 0⟩ r ∧ wr.ownsRow w.heap.size 119 2 (.slice ol (linA c s k).length cl) (linA c s k).length (flatT (linA c s k)) ∧ (∀ x ∈ linA c s k, x.2 ≤ 1000000000)) (fun i _ => c.arts.length - (intOf i).toNat)
  case atStart => exact ⟨0, none, 0, Nat.zero_le _, rfl, Agr.refl _ _, HI0.out, World.ownsRow_nil .., fun x hx => by cases hx⟩
  case round =>
    obtain ⟨k, ol, cl, hk, rfl, hag, hx, hrow, hall⟩ := hrel
    obtain ⟨wA, rfl⟩ : ∃ wA : World, wA = wr := ⟨_, rfl⟩
    have HAG := Lib.hid hag
    have HXA := Lib.hid hx
    have HRW := Lib.hid hrow
    have HALL := Lib.hid hall
    clear hag hx hrow hall HI0 HX
    by_cases hlt : k < c.arts.length
    · have HBAD := Lib.hid (fun h5 x hx e => lin_bad (s := s) (x := x) hlt h5 hx e)
      have HLS := Lib.hid (show linA c s (k + 1) = if (getArt c.arts k).k = 5 ∨ (getArt c.arts k).k = 6 then linA c s k else linA c s k ++ [((k : Int), costA (getArt c.arts k) c s)] from rfl)
      have HAA := Lib.hid (HA.out k hlt)
      have hll := linA_len c s k
      obtain ⟨L, hL⟩ : ∃ L, linA c s k = L := ⟨_, rfl⟩
      rw [hL] at HXA HRW HALL HLS hll
      clear hL
      obtain ⟨ga, fa, hgo, a0, a1, a2, a3, a4, a5, a6⟩ := HXA.out.here.arts k hlt
      obtain ⟨a, ha⟩ : ∃ a, getArt c.arts k = a := ⟨_, rfl⟩
      rw [ha] at a0 a1 a2 a3 a4 a5 a6 HLS HBAD HAA
      clear ha
      rw [hgo]
      have y1 : (0 : Int) ≤ (k : Int) := by omega
      have y2 : (k : Int) < (c.arts.length : Int) := by omega
      go_upto_region 3 with (fail)
      obtain ⟨W1, hW1⟩ : ∃ W1, W1 = wA.alloc (.cells #[.int .i64 a.k, .int .i64 a.d, .int .i64 a.f, .int .i64 a.t, .int .i64 a.p, .int .i64 a.u, .int .i64 a.r] 72) := ⟨_, rfl⟩
      have HQ := Lib.hid (show Blk W1 wA.heap.size 72 #[.int .i64 a.k, .int .i64 a.d, .int .i64 a.f, .int .i64 a.t, .int .i64 a.p, .int .i64 a.u, .int .i64 a.r] by rw [hW1]; exact Blk.new _ _ _)
      have HB1 := Lib.hid (show Below wA.heap.size wA W1 by rw [hW1]; exact below_alloc (Below.refl _ _) _)
      try rw [← hW1]
      clear hW1 a0 a1 a2 a3 a4 a5 a6
      replace HXA := Lib.hid (HXA.out.later HB1.out)
      replace HAG := Lib.hid (HAG.out.later HB1.out)
      replace HRW := Lib.hid (ownsRow_later HRW.out HB1.out)
      clear HB1
      obtain ⟨Q, hQ⟩ : ∃ B, wA.heap.size = B := ⟨_, rfl⟩
      rw [hQ] at HQ ⊢
      clear hQ
      have a0 : W1.cell? ⟨Q, 0, none⟩ = some (.int .i64 a.k) := HQ.out.cell 0
      have a1 : W1.cell? ⟨Q, 1, none⟩ = some (.int .i64 a.d) := HQ.out.cell 1
      have a2 : W1.cell? ⟨Q, 2, none⟩ = some (.int .i64 a.f) := HQ.out.cell 2
      have a3 : W1.cell? ⟨Q, 3, none⟩ = some (.int .i64 a.t) := HQ.out.cell 3
      have a4 : W1.cell? ⟨Q, 4, none⟩ = some (.int .i64 a.p) := HQ.out.cell 4
      have a5 : W1.cell? ⟨Q, 5, none⟩ = some (.int .i64 a.u) := HQ.out.cell 5
      have a6 : W1.cell? ⟨Q, 6, none⟩ = some (.int .i64 a.r) := HQ.out.cell 6
      by_cases h5 : a.k = 5
      · have d5 : (a.k == 5) = true := by simpa using h5
        have HL2 := Lib.hid (show linA c s (k + 1) = L by rw [HLS.out, if_pos (Or.inl h5)])
        clear h5
        go_wp2
        go_roundw
        case rel => exact ⟨k + 1, ol, cl, hlt, by go_num, HAG.out, by rw [HL2.out]; exact HXA.out, by rw [HL2.out]; exact HRW.out, by rw [HL2.out]; exact HALL.out⟩
        case measure => simp [intOf]; omega
      have d5 : (a.k == 5) = false := by simpa using h5
      by_cases h6 : a.k = 6
      · have d6 : (a.k == 6) = true := by simpa using h6
        have HL2 := Lib.hid (show linA c s (k + 1) = L by rw [HLS.out, if_pos (Or.inr h6)])
        clear h6 h5
        go_wp2
        go_roundw
        case rel => exact ⟨k + 1, ol, cl, hlt, by go_num, HAG.out, by rw [HL2.out]; exact HXA.out, by rw [HL2.out]; exact HRW.out, by rw [HL2.out]; exact HALL.out⟩
        case measure => simp [intOf]; omega
      have d6 : (a.k == 6) = false := by simpa using h6
      have hno : ¬ (a.k = 5 ∨ a.k = 6) := fun h => h.elim h5 h6
      have HL2 := Lib.hid (show linA c s (k + 1) = L ++ [((k : Int), costA a c s)] by rw [HLS.out, if_neg hno])
      replace HBAD := Lib.hid (fun e => HBAD.out hno (costA a c s) rfl e)
      clear h5 h6 hno HLS
      have HC := Lib.hid (cost_any w0 W1 g c s _ r a HXA.out ((HSL.out.agr HAG.out (fun _ h => h)).twos) hd HAA.out HS.out)
      obtain ⟨x, hx⟩ : ∃ x, costA a c s = x := ⟨_, rfl⟩
      rw [hx] at HL2 HBAD HC
      clear hx
      go_wp2_with fail
      refine HC.out.mono ?_
      rintro _ W2 ⟨rfl, hb⟩
      replace HXA := Lib.hid (HXA.out.later hb)
      replace HAG := Lib.hid (HAG.out.later hb)
      replace HRW := Lib.hid (ownsRow_later HRW.out hb)
      clear hb HC a0 a1 a2 a3 a4 a5 a6 d5 d6 HQ
      obtain ⟨b1, hb1⟩ : ∃ b, decide (x ≤ 1000000000) = b := ⟨_, rfl⟩
      have HLE := Lib.hid hb1
      cases b1 with
      | false =>
        go_wp2_with fail
        refine (need_no 4 W2).mono ?_
        rintro _ _ ⟨rfl, rfl⟩
        clear hb1
        go_wp2
        exact ⟨rfl, HNO.out _ _ (HBAD.out HLE.out) HAG.out HXA.out⟩
      | true =>
      go_wp2_with fail
      refine (need_ok 4 W2).mono ?_
      rintro _ _ ⟨rfl, rfl⟩
      clear hb1
      have HN1 := Lib.hid (show L.length + 1 ≤ 1000000000 by omega)
      have hbase := HAG.out.size
      have e19 : W2.cell? ⟨g, 19, none⟩ = some (.slice ol L.length cl) := HXA.out.blk.cell 19
      go_wp2_with (at_builtin; refine wp_append1O (news := [.int .i64 (k : Int), .int .i64 x]) elemL HRW.out hbase HN1.out (by decide) rfl (oneI2 _ _) rfl _ _ rfl rfl rfl rfl ?_)
      intro v2 w4 hr2 hgr hat
      obtain ⟨o2, c2, hv2, _⟩ := ownsRow_shape' hr2
      subst hv2
      have hR2 := ownsRow_cast hr2 rfl (show flatT L ++ [.int .i64 (k : Int), .int .i64 x] = flatT (L ++ [((k : Int), x)]) from flatT_snoc L (k, x))
      clear hr2 hat
      have hob : ∀ kk, (Value.slice ol L.length cl).ownBlock = some kk → w.heap.size ≤ kk := fun kk e => (HRW.out.lt kk e).1
      have HXB := Lib.hid ((HXA.out.later (below_alloc (Below.refl _ _) (.cells #[.int .i64 (k : Int), .int .i64 x] 119))).grown hgr (fun kk e => by have := hob kk e; omega))
      have HAB := Lib.hid ((HAG.out.alloc (.cells #[.int .i64 (k : Int), .int .i64 x] 119)).grown hgr hob)
      have HX4 := Lib.hid (show ExM w0 (w4.setCell ⟨g, 19, none⟩ (.slice o2 (L.length + 1) c2)) g c s ⟨o2, c2, linA c s (k + 1), 0, 0, 0⟩ r by rw [HL2.out]; exact HXB.out.set (by simp))
      have HA4 := Lib.hid (HAB.out.trans (agr_set (i := 19) (u := .slice o2 (L.length + 1) c2)) (fun _ h => h))
      have HR4 := Lib.hid (show (w4.setCell ⟨g, 19, none⟩ (.slice o2 (L.length + 1) c2)).ownsRow w.heap.size 119 2 (.slice o2 (linA c s (k + 1)).length c2) (linA c s (k + 1)).length (flatT (linA c s (k + 1))) by
        rw [HL2.out, List.length_append]
        exact ownsRow_setCell_below hR2 hgw _)
      have HALL4 := Lib.hid (show ∀ y ∈ linA c s (k + 1), y.2 ≤ 1000000000 by
        rw [HL2.out]
        intro y hy
        rcases List.mem_append.1 hy with hy | hy
        · exact HALL.out y hy
        · obtain rfl := List.mem_singleton.1 hy
          exact of_decide_eq_true HLE.out)
      have f0 := HXB.out.blk.frozen 19
      have g0 : w4.cell? ⟨g, 19, none⟩ = some (.slice ol L.length cl) := HXB.out.blk.cell 19
      clear hR2 hgr hob e19
      go_wp2
      go_roundw
      case rel => exact ⟨k + 1, o2, c2, hlt, by go_num, HA4.out, HX4.out, HR4.out, HALL4.out⟩
      case measure => simp [intOf]; omega
    · obtain rfl : k = c.arts.length := by omega
      have HOKV := Lib.hid (show linOk c s = true by unfold linOk; rw [List.all_eq_true]; exact fun x hx => decide_eq_true (HALL.out x hx))
      have HTS := Lib.hid (ownsRow_twosS (S := [g]) HRW.out (fun b hb => by obtain rfl := List.mem_singleton.1 hb; exact hgw))
      go_wp2
      go_end0
      exact HOK.out _ _ _ HOKV.out HAG.out HXA.out HTS.out
end Go.Proofs.YtkfmmiekajgdjaaGreat