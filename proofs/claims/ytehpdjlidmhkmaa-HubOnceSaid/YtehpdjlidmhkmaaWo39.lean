/- Chapter 39: Receive of the reference. -/
import Derived.Test.YtehpdjlidmhkmaaWj39
import Derived.Test.YtehpdjlidmhkmaaWl39
import Derived.Test.YtehpdjlidmhkmaaTwo
import Derived.Test.YtehpdjlidmhkmaaMix
import Derived.Test.YtehpdjlidmhkmaaPlainE39
import Derived.Deep.Cut
import Derived.Deep.CutRange
import Derived.Deep.DeepCutAuto
namespace Go.Proofs.Ytehpdjlidmhkmaa
open Go.RowKit
attribute [local go_sem] Oper.semAt_some

def RecvOut (l : List Bx) (m : Msg) (w : World) (e : Ending) (w' : World) : Prop :=
  Below w.heap.size w w' ∧ ∃ (o o2 : Option Addr) (cap cap2 : Nat), e = .returned (.tuple #[.slice o (outL l m).length cap, .slice o2 (outM l m).length cap2, .int .i64 (recvE l m)]) ∧ Bxs w' o (outL l m) ∧ Msgs w' o2 (outM l m)
theorem RecvOut.err {l : List Bx} {m : Msg} {w w' : World} {E : Int} (hb : Below w.heap.size w w') (hE : recvE l m = E) (h0 : ¬ E = 0) : RecvOut l m w (.returned (.tuple #[.slice none 0 0, .slice none 0 0, .int .i64 E])) w' := by
  have e1 : outL l m = [] := by unfold outL; rw [hE, if_neg h0]
  have e2 : outM l m = [] := by unfold outM; rw [hE, if_neg h0]
  refine ⟨hb, none, none, 0, 0, ?_, ?_, ?_⟩
  · rw [e1, e2, hE]; rfl
  · rw [e1]; exact Bxs.nil
  · rw [e2]; exact Msgs.nil
theorem RecvOut.ok {l : List Bx} {m : Msg} {w w' : World} {o o2 : Option Addr} {n n2 cap cap2 : Nat} {L : List Bx} {M : List Msg} (hb : Below w.heap.size w w') (h0 : recvE l m = 0) (hL : recvL l m = L) (hM : overOf l m = M) (hn : L.length = n) (hn2 : M.length = n2) (h1 : Bxs w' o L) (h2 : Msgs w' o2 M) : RecvOut l m w (.returned (.tuple #[.slice o n cap, .slice o2 n2 cap2, .int .i64 0])) w' := by
  have e1 : outL l m = L := by unfold outL; rw [if_pos h0, hL]
  have e2 : outM l m = M := by unfold outM; rw [if_pos h0, hM]
  refine ⟨hb, o, o2, cap, cap2, ?_, ?_, ?_⟩
  · rw [e1, e2, h0, hn, hn2]
  · rw [e1]; exact h1
  · rw [e2]; exact h2

theorem recvE_old {l : List Bx} {m : Msg} (hl : validL l = true) (hm : validM m = true) (h : (decide (m.n < (ofF l m.f).x) || hasN (ofF l m.f).ws m.n) = true) : recvE l m = 12 := by
  rw [recvE_eq hl hm, if_pos (by simpa using h)]
theorem recvE_new {l : List Bx} {m : Msg} (hl : validL l = true) (hm : validM m = true) (h : (decide (m.n < (ofF l m.f).x) || hasN (ofF l m.f).ws m.n) = false) : recvE l m = if hasF l m.f = false ∧ l.length = 64 then 2 else if (ofF l m.f).x < m.n ∧ many l = 64 then 10 else 0 := by
  rw [recvE_eq hl hm, if_neg (by rw [Bool.or_eq_false_iff] at h; rw [h.2]; simpa using h.1)]
theorem old_step {a : Bool} {m x : Msg} {xs : List Msg} {O : Bool} (h : (a || hasN (x :: xs) m.n) = O) : ((a || decide (x.n = m.n)) || hasN xs m.n) = O := by
  rw [← h, hasN]
  by_cases e : x.n = m.n
  · rw [if_pos e, decide_eq_true e]; simp
  · rw [if_neg e, decide_eq_false e, Bool.or_false]

set_option maxRecDepth 100000 in
set_option maxHeartbeats 16000000 in
theorem refReceive_any (o : Option Addr) (cap : Nat) (l : List Bx) (m : Msg) (w : World) (hr : Bxs w o l) (hl : l.length ≤ 1000000000000000) : Calls Try.prog 13 #[.slice o l.length cap, msgV m] w (RecvOut l m w) := by
  have HR := Lib.hid hr
  clear hr
  go_enter Try.func13, Try.ntmps13
  go_wp2_with fail
  have HBM0 := Lib.hid (Box3.new w 24 (.int .i64 m.f) (.int .i64 m.n) (.int .i64 m.b))
  refine (refValid_any o cap l _ (HR.out.later HBM0.out.below) (by omega)).mono ?_
  rintro e w1 ⟨rfl, hb1⟩
  have HBM := Lib.hid (HBM0.out.later hb1)
  clear hb1 HBM0
  have m0 := HBM.out.c0
  have m1 := HBM.out.c1
  have m2 := HBM.out.c2
  obtain ⟨V, hV⟩ : ∃ V, validL l = V := ⟨_, rfl⟩
  rw [hV]
  have HV := Lib.hid hV
  clear hV
  go_wp2_with fail
  clear m0 m1 m2
  refine (refMessage_any m w1).mono ?_
  rintro e w2 ⟨rfl, hb2⟩
  replace HBM := Lib.hid (HBM.out.later hb2)
  clear hb2
  obtain ⟨VM, hVM⟩ : ∃ VM, validM m = VM := ⟨_, rfl⟩
  rw [hVM]
  have HVM := Lib.hid hVM
  clear hVM
  cases V with
  | false =>
    have HE := Lib.hid (show recvE l m = 1 from recvE_arg (by rw [HV.out]; rfl))
    go_wp2
    exact bodyPost_ret (v := .tuple #[.slice none 0 0, .slice none 0 0, .int .i64 1]) (by simp [results, Try.results13, go_sem]) rfl (RecvOut.err HBM.out.below HE.out (by decide))
  | true =>
  cases VM with
  | false =>
    have HE := Lib.hid (show recvE l m = 1 from recvE_arg (by rw [HV.out, HVM.out]; rfl))
    go_wp2
    exact bodyPost_ret (v := .tuple #[.slice none 0 0, .slice none 0 0, .int .i64 1]) (by simp [results, Try.results13, go_sem]) rfl (RecvOut.err HBM.out.below HE.out (by decide))
  | true =>
  have m0 := HBM.out.c0
  have m1 := HBM.out.c1
  have m2 := HBM.out.c2
  have HVL := Lib.hid (validL_iff.1 HV.out)
  have hl64 := HVL.out.1
  go_wp2_with fail
  clear m0 m1 m2
  refine (Of_any o cap l m.f w2 (HR.out.later HBM.out.below) (by omega)).mono ?_
  rintro e w3 ⟨hb3, oo, cp, rfl, hms, hcp, hle⟩
  replace HBM := Lib.hid (HBM.out.later hb3)
  have HMS := Lib.hid hms
  have hws : (ofF l m.f).ws.length ≤ 64 := Nat.le_trans ws_le HVL.out.2.1
  have HVB := Lib.hid (ofF_valid (f := m.f) (validM_iff.1 HVM.out).1 HVL.out.2.2)
  have HF := Lib.hid (ofF_f m.f l)
  have HOLD := Lib.hid (fun h => recvE_old (l := l) HV.out HVM.out h)
  have HNEW := Lib.hid (fun h => recvE_new (l := l) HV.out HVM.out h)
  obtain ⟨x, hx⟩ : ∃ x, ofF l m.f = x := ⟨_, rfl⟩
  obtain ⟨K, hK⟩ : ∃ K, hasF l m.f = K := ⟨_, rfl⟩
  have HX := Lib.hid hx
  have HK := Lib.hid hK
  rw [hx] at HMS hle hcp hws HVB HF HOLD HNEW
  rw [hK] at HNEW
  rw [hx, hK]
  clear hms hb3 hx hK hle
  have HVX := Lib.hid (validB_iff.1 HVB.out)
  have hxx : 1 ≤ x.x ∧ x.x ≤ 1000001 := HVX.out.2.1
  have hmn : 1 ≤ m.n ∧ m.n ≤ 1000000 := (validM_iff.1 HVM.out).2.1
  have HBXX := Lib.hid (Box3.new w3 42 (.int .i64 x.f) (.int .i64 x.x) (.slice oo x.ws.length cp))
  have HBMX := Lib.hid (HBM.out.later HBXX.out.below)
  obtain ⟨OLD, hOLD⟩ : ∃ OLD, (decide (m.n < x.x) || hasN x.ws m.n) = OLD := ⟨_, rfl⟩
  have HOO := Lib.hid hOLD
  rw [hOLD] at HOLD HNEW
  clear hOLD
  have m1 := HBM.out.c1
  have hmlt : w.heap.size < w3.heap.size := cell_lt m1
  go_wp2
  clear m1
  obtain ⟨W, hW⟩ : ∃ W : World, W = w3.alloc (.cells #[.int .i64 x.f, .int .i64 x.x, .slice oo x.ws.length cp] 42) := ⟨_, rfl⟩
  rw [← hW] at HBXX HBMX ⊢
  clear hW
  go_loopw [11, 12] (fun d i wr => ∃ (a : Bool) (k : Nat), k ≤ x.ws.length ∧ d = .bool a ∧ i = .int .i64 k ∧ (a || hasN (x.ws.drop k) m.n) = OLD ∧ Below W.heap.size W wr) (fun _ i _ => x.ws.length - (intOf i).toNat)
  case atStart => exact ⟨decide (m.n < x.x), 0, Nat.zero_le _, rfl, rfl, HOO.out, Below.refl _ _⟩
  case round =>
    obtain ⟨a, k, hk, rfl, rfl, hz, hb⟩ := hrel
    have HZ := Lib.hid hz
    have HB := Lib.hid hb
    clear hz hb HOO
    have b1 := cell_kept HB.out HBXX.out.c1
    have b2 := cell_kept HB.out HBXX.out.c2
    have m0 := cell_kept HB.out HBMX.out.c0
    have m1 := cell_kept HB.out HBMX.out.c1
    have m2 := cell_kept HB.out HBMX.out.c2
    by_cases hlt : k < x.ws.length
    · obtain ⟨h, oh, hho, _, d1, _⟩ := ((HMS.out.later HBXX.out.below).later HB.out) k hlt
      subst hho
      have HD := Lib.hid (dropM hlt)
      obtain ⟨y, hy⟩ : ∃ y, getM x.ws k = y := ⟨_, rfl⟩
      rw [hy] at d1 HD
      clear hy
      have HNX := Lib.hid (show ((a || decide (y.n = m.n)) || hasN (x.ws.drop (k + 1)) m.n) = OLD from old_step (by rw [← HD.out]; exact HZ.out))
      have y1 : (0 : Int) ≤ (k : Int) := by omega
      have y2 : (k : Int) < (x.ws.length : Int) := by omega
      cases a with
      | true =>
        have HNY := Lib.hid (show (true || hasN (x.ws.drop (k + 1)) m.n) = OLD by rw [← HNX.out]; simp)
        go_wp2_with fail
        go_quiet (fail)
        go_wp2
        go_roundw
        case rel => exact ⟨true, k + 1, by omega, rfl, by go_num, HNY.out, below_drewN HB.out _⟩
        case measure => simp [intOf]; omega
      | false =>
        obtain ⟨q, hq⟩ : ∃ q, decide (y.n = m.n) = q := ⟨_, rfl⟩
        rw [hq] at HNX
        have HNY := Lib.hid (show (q || hasN (x.ws.drop (k + 1)) m.n) = OLD by rw [← HNX.out]; simp)
        have hqb : (y.n == m.n) = q := by rw [← hq]; rfl
        clear hq HNX
        go_wp2_with fail
        go_quiet (fail)
        go_wp2
        go_roundw
        case rel => exact ⟨q, k + 1, by omega, rfl, by go_num, HNY.out, below_drewN HB.out _⟩
        case measure => simp [intOf]; omega
    · obtain rfl : k = x.ws.length := by omega
      have HA := Lib.hid (show a = OLD by rw [← HZ.out, List.drop_length]; simp [hasN])
      clear hk
      have HBW := Lib.hid (below_step HBMX.out.below HB.out)
      cases OLD with
      | true =>
        obtain rfl : a = true := HA.out
        have HE := Lib.hid (HOLD.out rfl)
        go_wp2
        exact bodyPost_ret (v := .tuple #[.slice none 0 0, .slice none 0 0, .int .i64 12]) (by simp [results, Try.results13, go_sem]) rfl (RecvOut.err HBW.out HE.out (by decide))
      | false =>
        obtain rfl : a = false := HA.out
        have HE := Lib.hid (HNEW.out rfl)
        clear HOLD HNEW
        go_upto_region 13 with (fail)
        obtain ⟨B13, hB13⟩ : ∃ B, decide (K = false ∧ l.length = 64) = B := ⟨_, rfl⟩
        have HB13 := Lib.hid hB13
        clear hB13
        go_cut [65] (fun s wc' => s = .bool B13 ∧ wc' = wr)
        case first =>
          cases K with
          | true =>
            obtain rfl : false = B13 := by rw [← HB13.out]; simp
            go_wp2_with fail
            go_meet
            case rel => exact ⟨rfl, rfl⟩
          | false =>
            have hd : decide ((64 : Int) ≤ (l.length : Int)) = B13 := by rw [← HB13.out, decide_eq_decide]; exact ⟨fun h => ⟨rfl, by omega⟩, fun h => by have := h.2; omega⟩
            go_wp2_with fail
            go_meet
            case rel => exact ⟨rfl, rfl⟩
        case rest =>
          obtain ⟨rfl, rfl⟩ := hcut
          cases B13 with
          | true =>
            have HE2 := Lib.hid (show recvE l m = 2 by rw [HE.out, if_pos (by simpa using HB13.out)])
            go_wp2
            exact bodyPost_ret (v := .tuple #[.slice none 0 0, .slice none 0 0, .int .i64 2]) (by simp [results, Try.results13, go_sem]) rfl (RecvOut.err HBW.out HE2.out (by decide))
          | false =>
            replace HE := Lib.hid (show recvE l m = if x.x < m.n ∧ many l = 64 then 10 else 0 by rw [HE.out, if_neg (by simpa using HB13.out)])
            clear HB13
            obtain ⟨B15, hB15⟩ : ∃ B, decide (x.x < m.n ∧ many l = 64) = B := ⟨_, rfl⟩
            have HB15 := Lib.hid hB15
            clear hB15
            have HMY := Lib.hid (refMany_any o cap l wc (HR.out.later HBW.out) (by omega))
            have HM64 := Lib.hid HVL.out.2.1
            obtain ⟨N, hN⟩ : ∃ N, many l = N := ⟨_, rfl⟩
            rw [hN] at HE HB15 HMY HM64
            clear hN
            go_upto_region 15 with (fail)
            go_cut [75] (fun s wc' => s = .bool B15 ∧ Below wc.heap.size wc wc')
            case first =>
              by_cases hx : x.x < m.n
              · have hd : decide ((64 : Int) ≤ (N : Int)) = B15 := by
                  rw [← HB15.out, decide_eq_decide]
                  have := HM64.out
                  exact ⟨fun h => ⟨hx, by omega⟩, fun h => by have := h.2; omega⟩
                go_wp2_with fail
                refine HMY.out.mono ?_
                rintro e w4 ⟨rfl, hb4⟩
                have HB4 := Lib.hid hb4
                clear hb4
                go_wp2_with fail
                go_meet
                case rel => exact ⟨rfl, HB4.out⟩
              · obtain rfl : false = B15 := by rw [← HB15.out]; simp; omega
                have hd : decide (x.x < m.n) = false := by simpa using hx
                go_wp2_with fail
                go_meet
                case rel => exact ⟨rfl, Below.refl _ _⟩
            case rest =>
              obtain ⟨rfl, hb5⟩ := hcut
              have HB5 := Lib.hid hb5
              clear hb5 HMY b1 b2 m0 m1 m2
              cases B15 with
              | true =>
                have HE2 := Lib.hid (show recvE l m = 10 by rw [HE.out, if_pos (by simpa using HB15.out)])
                go_wp2
                exact bodyPost_ret (v := .tuple #[.slice none 0 0, .slice none 0 0, .int .i64 10]) (by simp [results, Try.results13, go_sem]) rfl (RecvOut.err (below_step HBW.out HB5.out) HE2.out (by decide))
              | false =>
                replace HE := Lib.hid (show recvE l m = 0 by rw [HE.out, if_neg (by simpa using HB15.out)])
                have HTK := Lib.hid (took HE.out)
                have HBB := Lib.hid (below_step HB.out HB5.out)
                have b1 := cell_kept HBB.out HBXX.out.c1
                have b2 := cell_kept HBB.out HBXX.out.c2
                have m0 := cell_kept HBB.out HBMX.out.c0
                have m1 := cell_kept HBB.out HBMX.out.c1
                have m2 := cell_kept HBB.out HBMX.out.c2
                have HWW := Lib.hid (below_step HBW.out HB5.out)
                clear HB15
                go_wp2_with fail
                refine (with_any oo cp x.ws m wc (((HMS.out.later HBXX.out.below).later HB.out).later HB5.out) (by omega)).mono ?_
                rintro e w6 ⟨hb6, o6, c6, rfl, hms6, hcap6⟩
                have HM6 := Lib.hid hms6
                have HW6 := Lib.hid (below_step HWW.out hb6)
                replace b1 := cell_kept hb6 b1
                replace m0 := cell_kept hb6 m0
                clear hb6 hms6 b2 m1 m2
                have HLL := Lib.hid (ins_length m x.ws)
                have HSP := Lib.hid (show spl x.x (insM x.ws m) = (ov x m, (nb x m).ws, (nb x m).x) by
                  have h1 := HTK.out.waits
                  have h2 := HTK.out.ge
                  have h3 := HTK.out.new
                  rw [HX.out] at h1 h2 h3
                  exact spl_eq h1 HVM.out rfl h2 h3)
                obtain ⟨L, hL⟩ : ∃ L, insM x.ws m = L := ⟨_, rfl⟩
                rw [hL] at HM6 HLL HSP hcap6 ⊢
                clear hL
                have hL65 : L.length ≤ 65 := by have := HLL.out; omega
                obtain ⟨R, hR⟩ : ∃ R, spl x.x L = R := ⟨_, rfl⟩
                rw [hR] at HSP
                have HS0 := Lib.hid (show SplAt R [] [] x.x (L.drop 0) from by rw [← hR]; rfl)
                clear hR
                have HT0 := Lib.hid (Two.new w6 24 3 42 #[.int .i64 m.f, .int .i64 x.x, .slice none 0 0])
                go_wp2
                clear b1 m0
                go_loopw [15, 16] (fun v i wr => ∃ (k nO nW : Nat) (vW : Value) (ovl wsl : List Msg) (q : Int), k ≤ L.length ∧ i = .int .i64 k ∧ q = x.x + nO ∧ nO + nW = k ∧ ovl.length = nO ∧ wsl.length = nW ∧ SplAt R ovl wsl q (L.drop k) ∧ Two w6 wr 24 3 42 #[.int .i64 m.f, .int .i64 q, vW] v nO (flatM ovl) vW nW (flatM wsl)) (fun _ i _ => L.length - (intOf i).toNat)
                case atStart => exact ⟨0, 0, 0, .slice none 0 0, [], [], x.x, Nat.zero_le _, rfl, by simp, rfl, rfl, rfl, HS0.out, HT0.out⟩
                case round =>
                  obtain ⟨k, nO, nW, vW, ovl, wsl, q, hk, rfl, hq, hnn, hlo, hlw, hsp, htw⟩ := hrel
                  have HSPL := Lib.hid hsp
                  have HTW := Lib.hid htw
                  have HLO := Lib.hid hlo
                  have HLW := Lib.hid hlw
                  have hqb : 1 ≤ q ∧ q ≤ 2000000 := by omega
                  have HQ := Lib.hid hq
                  clear hsp htw hlo hlw HS0 HT0 hq
                  obtain ⟨oW, cW, hvW, _⟩ := HTW.out.b.row.shape
                  subst hvW
                  obtain ⟨oO, cO, hvO, _⟩ := HTW.out.a.row.shape
                  subst hvO
                  have b0 : wr.cell? ⟨w6.heap.size, 0, none⟩ = some (.int .i64 m.f) := HTW.out.a.blk.cell 0
                  have b1 : wr.cell? ⟨w6.heap.size, 1, none⟩ = some (.int .i64 q) := HTW.out.a.blk.cell 1
                  have b2 : wr.cell? ⟨w6.heap.size, 2, none⟩ = some (.slice oW nW cW) := HTW.out.a.blk.cell 2
                  by_cases hlt : k < L.length
                  · obtain ⟨h, oh, hho, c0, c1, c2⟩ := (HM6.out.later HTW.out.a.below) k hlt
                    have HCY := Lib.hid (fun (w' : World) (hw' : Below w6.heap.size w6 w') => show w'.cell? ⟨h, oh + k * 3, none⟩ = some (.int .i64 (getM L k).f) ∧ w'.cell? ⟨h, oh + k * 3 + 1, none⟩ = some (.int .i64 (getM L k).n) ∧ w'.cell? ⟨h, oh + k * 3 + 2, none⟩ = some (.int .i64 (getM L k).b) from by
                      obtain ⟨h', oh', hho', hc⟩ := (HM6.out.later hw') k hlt
                      rw [hho] at hho'
                      injection hho' with hho'
                      injection hho' with e1 e2
                      subst e1
                      subst e2
                      exact hc)
                    subst hho
                    have HD := Lib.hid (dropM hlt)
                    obtain ⟨y, hy⟩ : ∃ y, getM L k = y := ⟨_, rfl⟩
                    rw [hy] at c0 c1 c2 HD HCY
                    clear hy
                    have y1 : (0 : Int) ≤ (k : Int) := by omega
                    have y2 : (k : Int) < (L.length : Int) := by omega
                    have HN := Lib.hid (show nO + 1 ≤ 1000000000 by omega)
                    have HN2 := Lib.hid (show nW + 1 ≤ 1000000000 by omega)
                    by_cases hyq : y.n = q
                    · have HSN := Lib.hid (show SplAt R (ovl ++ [y]) wsl (q + 1) (L.drop (k + 1)) from (show SplAt R ovl wsl q (y :: L.drop (k + 1)) by rw [← HD.out]; exact HSPL.out).take hyq)
                      rw [hyq] at c1
                      have HY := Lib.hid hyq
                      clear hyq
                      go_wp2_with fail
                      go_quiet (fail)
                      go_wp2_with (at_builtin; refine wp_append1T (news := [.int .i64 y.f, .int .i64 q, .int .i64 y.b]) elemM (HTW.out.later (below_drewN (Below.refl _ _) _)) HN.out (by decide) rfl (msgC_one ⟨y.f, q, y.b⟩) rfl _ _ rfl rfl rfl rfl ?_)
                      clear b0 b1 b2 c0 c1 c2
                      intro v2 w7 ht2
                      have HT2 := Lib.hid ht2
                      clear ht2
                      have b1 : w7.cell? ⟨w6.heap.size, 1, none⟩ = some (.int .i64 q) := HT2.out.a.blk.cell 1
                      have f1 := HT2.out.a.blk.frozen 1
                      have HT3 := Lib.hid ((HT2.out.store 1 (.int .i64 (q + 1))).cast (cs' := #[.int .i64 m.f, .int .i64 (q + 1), .slice oW nW cW]) (by simp) rfl (show _ = flatM (ovl ++ [y]) by rw [flatM_append, flatM_one, msgC, HY.out]) rfl rfl)
                      go_wp2
                      go_roundw
                      case rel => exact ⟨k + 1, nO + 1, nW, _, ovl ++ [y], wsl, q + 1, by omega, by go_num, by rw [HQ.out]; omega, by omega, by rw [List.length_append, HLO.out]; rfl, HLW.out, HSN.out, HT3.out⟩
                      case measure => simp [intOf]; omega
                    · have HSN := Lib.hid (show SplAt R ovl (wsl ++ [y]) q (L.drop (k + 1)) from (show SplAt R ovl wsl q (y :: L.drop (k + 1)) by rw [← HD.out]; exact HSPL.out).keep hyq)
                      have hyb : (y.n == q) = false := by simpa using hyq
                      clear hyq
                      go_wp2_with fail
                      go_quiet (fail)
                      go_wp2_with fail
                      obtain ⟨W7, hW7⟩ : ∃ W7 : World, W7 = wr.drewN nq := ⟨_, rfl⟩
                      rw [← hW7]
                      have HT7 := Lib.hid (show Two w6 W7 24 3 42 #[.int .i64 m.f, .int .i64 q, .slice oW nW cW] (.slice oO nO cO) nO (flatM ovl) (.slice oW nW cW) nW (flatM wsl) from by rw [hW7]; exact HTW.out.later (below_drewN (Below.refl _ _) _))
                      clear hW7 b0 b1 b2 c0 c1 c2
                      refine wp_region_mask [6, 7, 9] [true, true, true, true, true, true, false, false, true, false] (fun w'' => w''.cell? ⟨w6.heap.size, 2, none⟩ = some (.slice oW nW cW) ∧ w''.cell? ⟨h, oh + k * 3, none⟩ = some (.int .i64 y.f) ∧ w''.cell? ⟨h, oh + k * 3 + 1, none⟩ = some (.int .i64 y.n) ∧ w''.cell? ⟨h, oh + k * 3 + 2, none⟩ = some (.int .i64 y.b)) mixed (by kernel_rfl) ?_
                      intro KR hR
                      have HR := Lib.hid hR
                      clear hR
                      simp only [marked]
                      apply wpM_val rfl
                      · (intro w' hw'; go_simp; with_reducible rfl)
                      simp only [Act.put, List.setIfInBounds_toArray, List.set_cons_zero, List.set_cons_succ]
                      apply wpM_val rfl
                      · (intro w' hw'; obtain ⟨c0, c1, c2, c3⟩ := hw'; go_simp; with_reducible rfl)
                      simp only [Act.put, List.setIfInBounds_toArray, List.set_cons_zero, List.set_cons_succ]
                      ((with_reducible refine wpM_move ?_ ?_); exact rfl; simp only [Act.put, List.setIfInBounds_toArray, List.set_cons_zero, List.set_cons_succ])
                      ((with_reducible refine wpM_move ?_ ?_); exact rfl; simp only [Act.put, List.setIfInBounds_toArray, List.set_cons_zero, List.set_cons_succ])
                      apply wpM_val rfl
                      · (intro w' hw'; go_simp; with_reducible rfl)
                      simp only [Act.put, List.setIfInBounds_toArray, List.set_cons_zero, List.set_cons_succ]
                      apply wpM_val rfl
                      · (intro w' hw'; obtain ⟨c0, c1, c2, c3⟩ := hw'; go_simp; with_reducible rfl)
                      simp only [Act.put, List.setIfInBounds_toArray, List.set_cons_zero, List.set_cons_succ]
                      apply wpM_val rfl
                      · (intro w' hw'; go_simp; with_reducible rfl)
                      simp only [Act.put, List.setIfInBounds_toArray, List.set_cons_zero, List.set_cons_succ]
                      refine wpM_nil (HR.out _ ?_)
                      clear HR
                      have HJ := Lib.hid (fun (w' : World) (hb : Below w6.heap.size w6 w') (h2 : w'.cell? ⟨w6.heap.size, 2, none⟩ = some (.slice oW nW cW)) => show w'.cell? ⟨w6.heap.size, 2, none⟩ = some (.slice oW nW cW) ∧ w'.cell? ⟨h, oh + k * 3, none⟩ = some (.int .i64 y.f) ∧ w'.cell? ⟨h, oh + k * 3 + 1, none⟩ = some (.int .i64 y.n) ∧ w'.cell? ⟨h, oh + k * 3 + 2, none⟩ = some (.int .i64 y.b) from ⟨h2, HCY.out w' hb⟩)
                      obtain ⟨W8, hW8⟩ : ∃ W8 : World, W8 = W7.drew := ⟨_, rfl⟩
                      rw [← hW8]
                      have HT8 := Lib.hid (show Two w6 W8 24 3 42 #[.int .i64 m.f, .int .i64 q, .slice oW nW cW] (.slice oW nW cW) nW (flatM wsl) (.slice oO nO cO) nO (flatM ovl) from by rw [hW8]; exact (HT7.out.later (Below.refl _ _).drew).swap)
                      clear hW8
                      refine wpC_run rfl rfl (HJ.out _ HT8.out.a.below (HT8.out.a.blk.cell 2)) (v := .slice (some ⟨W8.heap.size, 0, none⟩) 1 1) (w' := W8.alloc (.cells #[.int .i64 y.f, .int .i64 y.n, .int .i64 y.b] 24)) (by go_simp) ?_
                      simp only [Act.put, List.setIfInBounds_toArray]
                      obtain ⟨v9, w9, hrun, ht9⟩ := HT8.out.run (ty := 27) (news := [.int .i64 y.f, .int .i64 y.n, .int .i64 y.b]) elemM HN2.out (by decide) rfl (msgC_one y)
                      have HT8a := Lib.hid (HT8.out.later (below_alloc (Below.refl _ _) (.cells #[.int .i64 y.f, .int .i64 y.n, .int .i64 y.b] 24)))
                      refine wpC_append _ _ rfl rfl rfl (HJ.out _ HT8a.out.a.below (HT8a.out.a.blk.cell 2)) hrun ?_
                      simp only [Act.put]
                      clear hrun
                      obtain ⟨o9, c9, hv9, _⟩ := ht9.a.row.shape
                      subst hv9
                      have f2 := ht9.a.blk.frozen 2
                      have b2 : w9.cell? ⟨w6.heap.size, 2, none⟩ = some (.slice oW nW cW) := ht9.a.blk.cell 2
                      refine wpC_skip rfl rfl (HJ.out _ ht9.a.below b2) (w' := w9.setCell ⟨w6.heap.size, 2, none⟩ (.slice o9 (nW + 1) c9)) (by go_simp) ?_
                      simp only [Act.put]
                      refine wpC_nil ?_
                      have HT9 := Lib.hid ((ht9.swap.store 2 (.slice o9 (nW + 1) c9)).cast (cs' := #[.int .i64 m.f, .int .i64 q, .slice o9 (nW + 1) c9]) (by simp) rfl rfl rfl (show _ = flatM (wsl ++ [y]) by rw [flatM_append, flatM_one]))
                      clear ht9 b2 f2
                      go_wp2
                      go_roundw
                      case rel => exact ⟨k + 1, nO, nW + 1, _, ovl, wsl ++ [y], q, by omega, by go_num, HQ.out, by omega, HLO.out, by rw [List.length_append, HLW.out]; rfl, HSN.out, HT9.out⟩
                      case measure => simp [intOf]; omega
                  · obtain rfl : k = L.length := by omega
                    have HRR := Lib.hid (show (ovl, wsl, q) = (ov x m, (nb x m).ws, (nb x m).x) by rw [← HSP.out, (show SplAt R ovl wsl q [] by have := HSPL.out; rwa [List.drop_length] at this).done])
                    obtain ⟨hr1, hr2⟩ := Prod.mk.inj HRR.out
                    obtain ⟨hr3, hr4⟩ := Prod.mk.inj hr2
                    have HNB := Lib.hid (show nb x m = ⟨m.f, q, wsl⟩ by rw [hr3, hr4]; have := nb_f x m; cases hh : nb x m; rw [hh] at this; simp at this; rw [this])
                    have HOV := Lib.hid (show overOf l m = ovl by rw [HTK.out.over, HX.out, hr1])
                    have HRL := Lib.hid (show recvL l m = put l ⟨m.f, q, wsl⟩ by rw [HTK.out.inboxes, HX.out, HNB.out])
                    clear hr1 hr2 hr3 hr4
                    have HPUT := Lib.hid (fun (hn : wsl.length = nW) => put_any o cap l ⟨⟨m.f, q, wsl⟩, oW, cW⟩ wr (HR.out.later (below_step HW6.out HTW.out.a.below)) (by omega) ⟨HTW.out.b.row.msgs, by show wsl.length ≤ _; omega, by have := HTW.out.b.row.shape; obtain ⟨a1, a2, a3, a4⟩ := this; injection a3 with _ _ a5; show wsl.length ≤ cW; omega⟩ HVL.out.2.2)
                    have HPU2 := Lib.hid (show Calls Try.prog 36 #[.slice o l.length cap, .agg #[.int .i64 m.f, .int .i64 q, .slice oW nW cW]] wr (OutB (put l ⟨m.f, q, wsl⟩) wr) from by have := HPUT.out HLW.out; unfold bxV at this; simp only [HLW.out] at this; exact this)
                    clear HPUT
                    go_wp2_with fail
                    refine HPU2.out.mono ?_
                    rintro e w9 ⟨hb9, o9, c9, rfl, hbx9, hc9⟩
                    have HB9 := Lib.hid hb9
                    have HX9 := Lib.hid hbx9
                    obtain ⟨LL, hLL⟩ : ∃ LL, put l ⟨m.f, q, wsl⟩ = LL := ⟨_, rfl⟩
                    rw [hLL] at HX9 HRL ⊢
                    clear hb9 hbx9 hc9 hLL b0 b1 b2 HPU2
                    go_wp2
                    exact bodyPost_ret (v := .tuple #[.slice o9 LL.length c9, .slice oO nO cO, .int .i64 0]) (by simp [results, Try.results13, go_sem]) rfl (RecvOut.ok (below_step (below_step HW6.out HTW.out.a.below) HB9.out) HE.out HRL.out HOV.out rfl HLO.out HX9.out (HTW.out.a.row.msgs.later HB9.out))
end Go.Proofs.Ytehpdjlidmhkmaa
