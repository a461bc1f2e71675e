/- Chapter 39: HubTwice. -/
import Derived.Test.YtehpdjlidmhkmaaWu39
namespace Go.Proofs.Ytehpdjlidmhkmaa
open Go.RowKit
attribute [local go_sem] Oper.semAt_some

theorem outL_err {l : List Bx} {m : Msg} {E : Int} (hE : recvE l m = E) (h0 : ¬ E = 0) : outL l m = [] := (out_err hE h0).1
theorem outM_err {l : List Bx} {m : Msg} {E : Int} (hE : recvE l m = E) (h0 : ¬ E = 0) : outM l m = [] := (out_err hE h0).2

set_option maxRecDepth 100000 in
set_option maxHeartbeats 16000000 in
theorem twice_walk (o : Option Addr) (cap : Nat) (l : List Bx) (m : Msg) (body : Int) (w : World) (hr : Bxs w o l) (hl : l.length ≤ 1000000000000000) : Calls Try.prog 6 #[.slice o l.length cap, msgV m, .int .i64 body] w (Ret (.bool true) w) := by
  have HR := Lib.hid hr
  clear hr
  go_enter Try.func6, Try.ntmps6
  go_wp2_with fail
  have HM0 := Lib.hid (Box3.new w 24 (.int .i64 m.f) (.int .i64 m.n) (.int .i64 m.b))
  refine (head_any _).mono ?_
  rintro e x1 ⟨rfl, hb⟩
  have HM := Lib.hid (HM0.out.later hb)
  clear hb HM0
  go_wp2_with fail
  refine (few_any o cap l _ (HR.out.later HM.out.below) (by omega)).mono ?_
  rintro e x2 ⟨rfl, hb⟩
  replace HM := Lib.hid (HM.out.later hb)
  clear hb
  obtain ⟨F, hF⟩ : ∃ F, fewL l = F := ⟨_, rfl⟩
  rw [hF]
  clear hF
  cases F with
  | false =>
    go_wp2
    go_ret
    exact ⟨rfl, HM.out.below⟩
  | true =>
  go_wp2_with fail
  refine (refValid_any o cap l _ (HR.out.later HM.out.below) (by omega)).mono ?_
  rintro e x3 ⟨rfl, hb⟩
  replace HM := Lib.hid (HM.out.later hb)
  clear hb
  obtain ⟨V, hV⟩ : ∃ V, validL l = V := ⟨_, rfl⟩
  rw [hV]
  have HV := Lib.hid hV
  clear hV
  cases V with
  | false =>
    go_wp2
    go_ret
    exact ⟨rfl, HM.out.below⟩
  | true =>
  have m0 := HM.out.c0
  have m1 := HM.out.c1
  have m2 := HM.out.c2
  go_wp2_with fail
  clear m0 m1 m2
  refine (refMessage_any m _).mono ?_
  rintro e x4 ⟨rfl, hb⟩
  replace HM := Lib.hid (HM.out.later hb)
  clear hb
  obtain ⟨VM, hVM⟩ : ∃ V, validM m = V := ⟨_, rfl⟩
  rw [hVM]
  have HVM := Lib.hid hVM
  clear hVM
  cases VM with
  | false =>
    go_wp2
    go_ret
    exact ⟨rfl, HM.out.below⟩
  | true =>
  by_cases hb0 : body < 0
  · have hbd : decide (body < 0) = true := by simpa using hb0
    go_wp2
    go_ret
    exact ⟨rfl, HM.out.below⟩
  have hbd0 : decide (body < 0) = false := by simpa using hb0
  by_cases hb1 : 1000000000 < body
  · have hbd1 : decide (1000000000 < body) = true := by simpa using hb1
    go_wp2
    go_ret
    exact ⟨rfl, HM.out.below⟩
  have hbd1 : decide (1000000000 < body) = false := by simpa using hb1
  have m0 := HM.out.c0
  have m1 := HM.out.c1
  have m2 := HM.out.c2
  go_wp2_with fail
  clear m0 m1 m2 hbd0 hbd1
  refine (Receive_any o cap l m _ (HR.out.later HM.out.below) hl).mono ?_
  rintro e x5 ⟨hb, oa, ox, ca, cx, rfl, hx, hy⟩
  replace HM := Lib.hid (HM.out.later hb)
  have HA := Lib.hid hx
  clear hb hx hy
  have hla := outL_le l m
  obtain ⟨LA, hLA⟩ : ∃ L, outL l m = L := ⟨_, rfl⟩
  obtain ⟨LX, hLX⟩ : ∃ L, outM l m = L := ⟨_, rfl⟩
  obtain ⟨E, hE⟩ : ∃ E, recvE l m = E := ⟨_, rfl⟩
  have HLA := Lib.hid hLA
  have HLX := Lib.hid hLX
  have HE := Lib.hid hE
  rw [hLA] at HA hla
  rw [hLA, hLX, hE]
  clear hLA hLX hE
  have HVL := Lib.hid (validL_iff.1 HV.out)
  have hl64 := HVL.out.1
  have m0 := HM.out.c0
  go_wp2_with fail
  clear m0
  refine (Of_any o cap l m.f _ (HR.out.later HM.out.below) (by omega)).mono ?_
  rintro e x6 ⟨hb, oo, cp, rfl, hms, hcp, hle⟩
  replace HM := Lib.hid (HM.out.later hb)
  replace HA := Lib.hid (HA.out.later hb)
  have HMS := Lib.hid hms
  have HOLD := Lib.hid (fun h => recvE_old (l := l) HV.out HVM.out h)
  have HNEW := Lib.hid (fun h => recvE_new (l := l) HV.out HVM.out h)
  have hws : (ofF l m.f).ws.length ≤ 64 := Nat.le_trans ws_le HVL.out.2.1
  obtain ⟨x, hx⟩ : ∃ x, ofF l m.f = x := ⟨_, rfl⟩
  obtain ⟨K, hK⟩ : ∃ K, hasF l m.f = K := ⟨_, rfl⟩
  rw [hx] at HMS hle hcp hws HOLD HNEW
  rw [hK] at HNEW
  rw [hx, hK]
  clear hms hb hx hK hle hcp
  rw [HE.out] at HOLD HNEW
  have HXB := Lib.hid (Box3.new x6 42 (.int .i64 x.f) (.int .i64 x.x) (.slice oo x.ws.length cp))
  obtain ⟨OLD, hOLD⟩ : ∃ OLD, (decide (m.n < x.x) || hasN x.ws m.n) = OLD := ⟨_, rfl⟩
  have HOO := Lib.hid hOLD
  rw [hOLD] at HOLD HNEW
  clear hOLD
  have m1 := HM.out.c1
  have hmlt : w.heap.size < x6.heap.size := cell_lt m1
  go_wp2
  clear m1
  obtain ⟨W, hW⟩ : ∃ W : World, W = x6.alloc (.cells #[.int .i64 x.f, .int .i64 x.x, .slice oo x.ws.length cp] 42) := ⟨_, rfl⟩
  replace HM := Lib.hid (HM.out.later HXB.out.below)
  replace HA := Lib.hid (HA.out.later HXB.out.below)
  replace HMS := Lib.hid (HMS.out.later HXB.out.below)
  rw [← hW] at HXB HM HA HMS ⊢
  clear hW
  go_loopw [15, 16] (fun d i wr => ∃ (a : Bool) (k : Nat), k ≤ x.ws.length ∧ d = .bool a ∧ i = .int .i64 k ∧ (a || hasN (x.ws.drop k) m.n) = OLD ∧ Below W.heap.size W wr) (fun _ i _ => x.ws.length - (intOf i).toNat)
  case atStart => exact ⟨decide (m.n < x.x), 0, Nat.zero_le _, rfl, rfl, HOO.out, Below.refl _ _⟩
  case round =>
    obtain ⟨a, k, hk, rfl, rfl, hz, hb⟩ := hrel
    have HZ := Lib.hid hz
    have HB := Lib.hid hb
    clear hz hb HOO
    have b1 := cell_kept HB.out HXB.out.c1
    have b2 := cell_kept HB.out HXB.out.c2
    have m0 := cell_kept HB.out HM.out.c0
    have m1 := cell_kept HB.out HM.out.c1
    by_cases hlt : k < x.ws.length
    · obtain ⟨h, oh, hho, _, d1, _⟩ := (HMS.out.later HB.out) k hlt
      subst hho
      have HD := Lib.hid (dropM hlt)
      obtain ⟨y, hy⟩ : ∃ y, getM x.ws k = y := ⟨_, rfl⟩
      rw [hy] at d1 HD
      clear hy
      have HNX := Lib.hid (show ((a || decide (y.n = m.n)) || hasN (x.ws.drop (k + 1)) m.n) = OLD from old_step (by rw [← HD.out]; exact HZ.out))
      have y1 : (0 : Int) ≤ (k : Int) := by omega
      have y2 : (k : Int) < (x.ws.length : Int) := by omega
      cases a with
      | true =>
        have HNY := Lib.hid (show (true || hasN (x.ws.drop (k + 1)) m.n) = OLD by rw [← HNX.out]; simp)
        go_wp2_with fail
        go_quiet (fail)
        go_wp2
        go_roundw
        case rel => exact ⟨true, k + 1, by omega, rfl, by go_num, HNY.out, below_drewN HB.out _⟩
        case measure => simp [intOf]; omega
      | false =>
        obtain ⟨q, hq⟩ : ∃ q, decide (y.n = m.n) = q := ⟨_, rfl⟩
        rw [hq] at HNX
        have HNY := Lib.hid (show (q || hasN (x.ws.drop (k + 1)) m.n) = OLD by rw [← HNX.out]; simp)
        have hqb : (y.n == m.n) = q := by rw [← hq]; rfl
        clear hq HNX
        go_wp2_with fail
        go_quiet (fail)
        go_wp2
        go_roundw
        case rel => exact ⟨q, k + 1, by omega, rfl, by go_num, HNY.out, below_drewN HB.out _⟩
        case measure => simp [intOf]; omega
    · obtain rfl : k = x.ws.length := by omega
      have HO2 := Lib.hid (show a = OLD by rw [← HZ.out, List.drop_length]; simp [hasN])
      clear hk
      have HBW := Lib.hid (below_step HM.out.below HB.out)
      cases OLD with
      | true =>
        obtain rfl : a = true := HO2.out
        obtain rfl : E = 12 := HOLD.out rfl
        obtain rfl : LA = [] := by rw [← HLA.out, outL_err HE.out (by decide)]
        obtain rfl : LX = [] := by rw [← HLX.out, outM_err HE.out (by decide)]
        clear HOLD HNEW
        go_wp2
        go_ret
        exact ⟨rfl, HBW.out⟩
      | false =>
        obtain rfl : a = false := HO2.out
        have HEQ := Lib.hid (HNEW.out rfl)
        clear HOLD HNEW
        by_cases c1 : K = false ∧ l.length = 64
        · obtain rfl : E = 2 := by rw [HEQ.out, if_pos c1]
          obtain ⟨rfl, h64⟩ := c1
          have h64i : (l.length : Int) = 64 := by omega
          obtain rfl : LA = [] := by rw [← HLA.out, outL_err HE.out (by decide)]
          obtain rfl : LX = [] := by rw [← HLX.out, outM_err HE.out (by decide)]
          go_wp2
          go_ret
          exact ⟨rfl, HBW.out⟩
        by_cases c2 : x.x < m.n ∧ many l = 64
        · obtain rfl : E = 10 := by rw [HEQ.out, if_neg c1, if_pos c2]
          obtain ⟨hxm, h64⟩ := c2
          have hxd : decide (x.x < m.n) = true := by simpa using hxm
          have HMY := Lib.hid (refMany_any o cap l wr (HR.out.later HBW.out) (by omega))
          rw [h64] at HMY
          obtain rfl : LA = [] := by rw [← HLA.out, outL_err HE.out (by decide)]
          obtain rfl : LX = [] := by rw [← HLX.out, outM_err HE.out (by decide)]
          clear c1 h64
          go_wp2_with fail
          refine HMY.out.mono ?_
          rintro e x7 ⟨rfl, hb⟩
          have HB7 := Lib.hid (below_step HBW.out hb)
          replace b1 := cell_kept hb b1
          replace m1 := cell_kept hb m1
          clear hb b2 m0 HMY
          go_wp2
          go_ret
          exact ⟨rfl, HB7.out⟩
        · obtain rfl : E = 0 := by rw [HEQ.out, if_neg c1, if_neg c2]
          have HTK := Lib.hid (took HE.out)
          obtain rfl : LA = recvL l m := by rw [← HLA.out, outL_zero HE.out]
          have HTW := Lib.hid (HTK.out.twice (m' := ⟨m.f, m.n, body⟩) (validM_iff.2 ⟨(validM_iff.1 HVM.out).1, (validM_iff.1 HVM.out).2.1, by show 0 ≤ body; omega, by show body ≤ 1000000000; omega⟩) rfl rfl)
          have HRC := Lib.hid (recv_at oa ca _ (recvL l m) ⟨m.f, m.n, body⟩ wr (HA.out.later HB.out) hla rfl HTW.out rfl rfl rfl rfl)
          obtain ⟨N, hN⟩ : ∃ N, (recvL l m).length = N := ⟨_, rfl⟩
          rw [hN] at HRC ⊢
          clear hN c1 c2
          go_wp2_with fail
          refine HRC.out.mono ?_
          rintro e x7 ⟨hb, _, _, _, _, rfl, _, _⟩
          have HB7 := Lib.hid (below_step HBW.out hb)
          clear hb HRC
          go_wp2
          go_ret
          exact ⟨rfl, HB7.out⟩
end Go.Proofs.Ytehpdjlidmhkmaa
