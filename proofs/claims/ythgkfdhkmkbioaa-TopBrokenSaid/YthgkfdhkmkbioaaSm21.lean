/- The first slot carried out: the walk. -/
import Derived.Test.YthgkfdhkmkbioaaSl21
import Derived.BigQuiet
namespace Go.Proofs.Ythgkfdhkmkbioaa
open Go.RowKit Go.Shelf
attribute [local go_sem] Oper.semAt_some

def SlotOut (J : List Jb) (S : List Int) (w : World) (e : Ending) (w' : World) : Prop := Below w.heap.size w w' ∧ ∃ (J' : List Jb) (o1 o2 : Option Addr) (c1 c2 : Nat), e = .returned (.tuple #[.slice o1 J'.length c1, .slice o2 (S.drop 1).length c2, .bool true]) ∧ w'.ownsRow w.heap.size 27 5 (.slice o1 J'.length c1) J'.length (flatJ J') ∧ w'.ownsRow w.heap.size 3 1 (.slice o2 (S.drop 1).length c2) (S.drop 1).length (intsV (S.drop 1)) ∧ LeftOk J S J'
set_option maxRecDepth 100000 in
set_option maxHeartbeats 16000000 in
theorem slot_any (w : World) (J : List Jb) (S : List Int) (oj os : Option Addr) (cj cs : Nat) (hj : JobsM w oj J) (hs : Ints w os S) (hv : ValidP J S) (hf : Feas J S) (hpos : 0 < S.length) (hcs : S.length ≤ cs) :
    Calls Try.prog 11 #[.slice oj J.length cj, .slice os S.length cs] w (SlotOut J S w) := by
  have HJ := Lib.hid hj
  have HS := Lib.hid hs
  have HV := Lib.hid hv
  have HFE := Lib.hid hf
  have hn12 := hv.j12
  have hm24 := hv.s24
  clear hj hs hv hf
  have HSC := Lib.hid (sched_any w J S oj os cj cs HJ.out HS.out HV.out)
  have e0 : ((S.length : Int) == 0) = false := beq_eq_false_iff_ne.2 (by omega)
  have e0n : (S.length == 0) = false := beq_eq_false_iff_ne.2 (by omega)
  have hmk := run_makeN (P := Try.prog) 23 3 (.int .i64 0) 1 8 Try.underlying23 (by kernel_rfl) J.length (by omega) (by omega)
  rw [show (Value.int .i64 0).cells = #[.int .i64 0] from rfl, Nat.mul_one, made_intsN] at hmk
  obtain ⟨OUT, hOUT⟩ : ∃ Q, SlotOut J S w = Q := ⟨_, rfl⟩
  have HOUT := Lib.hid hOUT
  rw [hOUT]
  clear hOUT
  go_enter Try.func11, Try.ntmps11
  go_wp2_with fail
  refine HSC.out.mono ?_
  rintro _ W1 hso
  obtain ⟨hb1, AL, OB, L, P, rfl, _, hob, hal, hll, hlv, hP⟩ := hso.good HFE.out
  have HPL := Lib.hid (sched_plan hob hal hll hlv)
  have HB1 := Lib.hid hb1
  have HP := Lib.hid hP
  clear hso hb1 hob hal hll hlv hP HSC
  go_upto_region 5 with (fail)
  have hb2 : Below W1.heap.size W1 ((W1.alloc (.cells #[.slice none 0 0, .slice none 0 0] 30)).alloc (.cells (intsC (List.replicate J.length 0)) 3)) := below_alloc (below_alloc (Below.refl _ _) _) _
  have hDB : Blk ((W1.alloc (.cells #[.slice none 0 0, .slice none 0 0] 30)).alloc (.cells (intsC (List.replicate J.length 0)) 3)) (W1.heap.size + 1) 3 (intsC (doneL P J.length 0)) := by
    have := Blk.new (W1.alloc (.cells #[.slice none 0 0, .slice none 0 0] 30)) 3 (intsC (List.replicate J.length 0))
    rw [World.size_alloc] at this
    rw [doneL_zero]
    exact this
  obtain ⟨W2, hW2⟩ : ∃ W, W = ((W1.alloc (.cells #[.slice none 0 0, .slice none 0 0] 30)).alloc (.cells (intsC (List.replicate J.length 0)) 3)) := ⟨_, rfl⟩
  rw [← hW2] at hb2 hDB
  rw [← hW2]
  clear hW2 hmk
  have hlow : W1.heap.size ≤ W1.heap.size + 1 := Nat.le_succ _
  obtain ⟨DB, hDBe⟩ : ∃ B, W1.heap.size + 1 = B := ⟨_, rfl⟩
  rw [hDBe] at hDB hlow
  rw [hDBe]
  clear hDBe
  have HB2 := Lib.hid hb2
  have HD2 := Lib.hid hDB
  have HLOW := Lib.hid hlow
  clear hb2 hDB hlow
  have HREL := Lib.hid (fun (k : Nat) (wr : World) (hb : Below W1.heap.size W1 wr) (h : Blk wr DB 3 (intsC (doneL P J.length k))) => show Below W1.heap.size W1 (wr.setCell ⟨DB, k, none⟩ (.int .i64 (P k 0))) ∧ Blk (wr.setCell ⟨DB, k, none⟩ (.int .i64 (P k 0))) DB 3 (intsC (doneL P J.length (k + 1))) from ⟨hb.setCell HLOW.out _, by have := h.set k (.int .i64 (P k 0)); rw [intsC_set, doneL_set] at this; exact this⟩)
  go_wp2_with fail
  go_loopw [46] (fun i wr => ∃ k : Nat, k ≤ J.length ∧ i = .int .i64 k ∧ Below W1.heap.size W1 wr ∧ Blk wr DB 3 (intsC (doneL P J.length k))) (fun i _ => J.length - (intOf i).toNat)
  case atStart => exact ⟨0, Nat.zero_le _, rfl, HB2.out, HD2.out⟩
  case round =>
    obtain ⟨k, hk, rfl, hb, hd⟩ := hrel
    obtain ⟨wA, rfl⟩ : ∃ wA : World, wA = wr := ⟨_, rfl⟩
    clear HB2 HD2
    have HB := Lib.hid hb
    have HD := Lib.hid hd
    clear hb hd
    by_cases hlt : k < J.length
    · obtain ⟨b, off, ro, rc, hbo, p0, hro⟩ := (HPL.out.later HB.out) k hlt
      obtain ⟨b2, off2, rfl, r0⟩ := hro 0 (by simpa using hpos)
      cases hbo
      rw [Nat.add_zero, show ((List.range S.length).map (P k)).getD 0 0 = P k 0 from rowL_get hpos] at r0
      rw [Nat.zero_add] at p0
      clear hro
      have HR := Lib.hid (HREL.out k wA HB.out HD.out)
      obtain ⟨d, hd⟩ : ∃ d, P k 0 = d := ⟨_, rfl⟩
      rw [hd] at r0 HR
      clear hd
      have d0 : wA.cell? ⟨DB, k, none⟩ = some (.int .i64 ((doneL P J.length k).getD k 0)) := (HD.out.cell k).trans (intsC_get (by rw [doneL_len]; exact hlt))
      have df := HD.out.frozen k
      have y1 : (0 : Int) ≤ (k : Int) := by omega
      have y2 : (k : Int) < (J.length : Int) := by omega
      have y3 : (0 : Int) < (S.length : Int) := by omega
      go_wp2
      exact ⟨⟨k + 1, hlt, by go_num, HR.out⟩, meas_lt hlt⟩
    · obtain rfl : k = J.length := by omega
      clear hlt hk
      have HAV := Lib.hid (advance_any wA J S (doneL P J.length J.length) oj os (some ⟨DB, 0, none⟩) cj cs J.length (HJ.out.later (below_step HB1.out HB.out)) (HS.out.later (below_step HB1.out HB.out)) HD.out.ints HV.out (plan_done HV.out HP.out hpos) hcs)
      have HAO := Lib.hid (fun i (hi : i < J.length) => adv_over HV.out HP.out hpos hi)
      have HLK := Lib.hid (left_ok HV.out HP.out hpos)
      have HDG := Lib.hid (fun i (hi : i < J.length) => doneL_all (P := P) hi)
      have HDL := Lib.hid (doneL_len P J.length J.length)
      obtain ⟨D, hDe⟩ : ∃ D, doneL P J.length J.length = D := ⟨_, rfl⟩
      rw [hDe] at HAV HLK HDG HDL HD
      clear hDe
      have HAL := Lib.hid (advL_len J D)
      have HAG := Lib.hid (fun i (hi : i < J.length) => advL_get (D := D) hi)
      have HLS := Lib.hid (leftJ_succ J D)
      have HLE := Lib.hid (leftJ_le J D)
      have HL0 : Hid (leftJ J D 0 = []) := Lib.hid rfl
      have HLX : Hid (∀ i, leftX J D i = decide (0 < (getJ (advL J D) i).t)) := Lib.hid (fun _ => rfl)
      obtain ⟨A, hA⟩ : ∃ A, advL J D = A := ⟨_, rfl⟩
      rw [hA] at HAV HAL HAG HLS HLX
      clear hA
      obtain ⟨T, hT⟩ : ∃ T, S.drop 1 = T := ⟨_, rfl⟩
      have HT := Lib.hid hT
      rw [hT] at HAV
      clear hT
      go_wp2_with fail
      refine HAV.out.mono ?_
      rintro _ W5 ⟨hb5, v1, v2, rfl, hr1, hr2⟩
      obtain ⟨oA, cA, rfl, _⟩ := ownsRow_shapeQ hr1
      obtain ⟨oT, cT, rfl, _⟩ := ownsRow_shapeQ hr2
      have HLOW2 : Hid (w.heap.size ≤ wA.heap.size) := Lib.hid (below_step HB1.out HB.out).size
      have HJA := Lib.hid (row_jobs hr1)
      have HRT := Lib.hid (hr2.mono HLOW2.out)
      have HB5 := Lib.hid (below_step (below_step HB1.out HB.out) hb5)
      have HD5 := Lib.hid ((HD.out.ints).later hb5)
      rw [HAL.out]
      have HB5S := Lib.hid HB5.out.size
      clear hb5 hr1 hr2 HAV HLOW2 HD HB HREL HLOW HPL HB1
      go_wp2_with fail
      go_loopw [15, 90] (fun v iv wr => ∃ k : Nat, k ≤ J.length ∧ iv = .int .i64 k ∧ Below w.heap.size w wr ∧ Below W5.heap.size W5 wr ∧ wr.ownsRow W5.heap.size 27 5 v (leftJ J D k).length (flatJ (leftJ J D k))) (fun _ iv _ => J.length - (intOf iv).toNat)
      case atStart => exact ⟨0, Nat.zero_le _, rfl, HB5.out, Below.refl _ _, by rw [HL0.out]; exact World.ownsRow_nil ..⟩
      case round =>
        obtain ⟨k, hk, rfl, hb, hbw, hrow⟩ := hrel
        obtain ⟨wB, rfl⟩ : ∃ wB : World, wB = wr := ⟨_, rfl⟩
        clear HB5
        have HB := Lib.hid hb
        have HBW := Lib.hid hbw
        have HR := Lib.hid hrow
        clear hb hbw hrow
        by_cases hlt : k < J.length
        · obtain ⟨b, off, rfl, c0, c1, c2, c3, c4⟩ := (HJ.out.later HB.out) k hlt
          obtain ⟨bA, offA, rfl, a0, a1, a2, a3, a4⟩ := (HJA.out.later HBW.out) k (by rw [HAL.out]; exact hlt)
          obtain ⟨bD, offD, hbD, d0⟩ := (HD5.out.later HBW.out) k (by rw [HDL.out]; exact hlt)
          cases hbD
          rw [Nat.zero_add] at d0
          have HLSk := Lib.hid (HLS.out k)
          rw [HLX.out k] at HLSk
          have hjo := HV.out.j _ (getJ_mem hlt)
          have hao := HAO.out k hlt
          have hcap := HP.out.cap k hlt 0 hpos
          have hd := HDG.out k hlt
          rw [hd] at d0
          rw [HAG.out k hlt, hd] at a0 a1 a2 a3 a4
          rw [HAG.out k hlt, hd] at HLSk
          have hyt : 0 ≤ (advJ (getJ J k) (P k 0)).t := Int.le_max_left ..
          have hr1 : rateAt (getJ J k) 0 ≤ 1000 := by
            unfold rateAt
            have := hjo.r1
            split <;> omega
          have hye : (advJ (getJ J k) (P k 0)).e = (getJ J k).e - P k 0 := rfl
          obtain ⟨d, hdd⟩ : ∃ d, P k 0 = d := ⟨_, rfl⟩
          obtain ⟨j, hj⟩ : ∃ j, getJ J k = j := ⟨_, rfl⟩
          rw [hdd] at d0 a0 a1 a2 a3 a4 HLSk hao hyt hye hcap
          rw [hj] at c0 c1 c2 c3 c4 a0 a1 a2 a3 a4 HLSk hao hyt hye hjo hr1 hcap
          obtain ⟨y, hy⟩ : ∃ y, advJ j d = y := ⟨_, rfl⟩
          rw [hy] at a0 a1 a2 a3 a4 HLSk hao hyt hye
          have hje0 := hjo.e0
          have hje1 := hjo.e1
          clear hd hdd hj hy hjo
          have HYE := Lib.hid hye
          rw [hye] at a2 hao
          have n0 : (j.e - (j.e - d) != d) = false := by rw [show j.e - (j.e - d) = d by omega]; simp
          have y1 : (0 : Int) ≤ (k : Int) := by omega
          have y2 : (k : Int) < (J.length : Int) := by omega
          have hlk := HLE.out k
          have HN1 := Lib.hid (show (leftJ J D k).length + 1 ≤ 1000000000 by omega)
          have hsz := HBW.out.size
          by_cases ht : 0 < y.t
          · have n1 : (y.t == 0) = false := beq_eq_false_iff_ne.2 (by omega)
            have n2 : decide (0 < y.t) = true := decide_eq_true ht
            rw [if_pos n2] at HLSk
            clear hao hye
            go_wp2_with fail
            obtain ⟨W7, hW7⟩ : ∃ W, W = wB.alloc (.cells #[.int .i64 y.f, .int .i64 y.t, .int .i64 (j.e - d), .int .i64 y.r, .int .i64 y.k] 27) := ⟨_, rfl⟩
            have hb7 : Below wB.heap.size wB W7 := by rw [hW7]; exact below_alloc (Below.refl _ _) _
            have HX7 : Blk W7 wB.heap.size 27 #[.int .i64 y.f, .int .i64 y.t, .int .i64 (j.e - d), .int .i64 y.r, .int .i64 y.k] := by rw [hW7]; exact Blk.new ..
            rw [← hW7]
            clear hW7
            have c2' := cell_kept hb7 c2
            have d0' := cell_kept hb7 d0
            have HB7 := Lib.hid (below_step HB.out hb7)
            have HBW7 := Lib.hid (below_step HBW.out hb7)
            have HR7 := Lib.hid (ownsRow_later HR.out hb7)
            clear hb7 c0 c1 c2 c3 c4 a0 a1 a2 a3 a4 d0
            obtain ⟨YB, hYB⟩ : ∃ B, wB.heap.size = B := ⟨_, rfl⟩
            rw [hYB] at HX7
            rw [hYB]
            clear hYB
            have x0 := HX7.cell 0
            have x1 := HX7.cell 1
            have x2 := HX7.cell 2
            have x3 := HX7.cell 3
            have x4 := HX7.cell 4
            simp at x0 x1 x2 x3 x4
            go_quiet (fail)
            obtain ⟨W8, hW8⟩ : ∃ W, W = W7.drewN nq := ⟨_, rfl⟩
            have hb8 : Below W7.heap.size W7 W8 := by rw [hW8]; exact below_drewN (Below.refl _ _) nq
            rw [← hW8]
            clear hW8 x0 x1 x2 x3 x4 c2' d0'
            have HX8 := HX7.later hb8
            have HB8 := Lib.hid (below_step HB7.out hb8)
            have HBW8 := Lib.hid (below_step HBW7.out hb8)
            have HR8 := Lib.hid (ownsRow_later HR7.out hb8)
            clear hb8 HX7 HB7 HBW7 HR7 HB HBW HR
            have x0 := HX8.cell 0
            have x1 := HX8.cell 1
            have x2 := HX8.cell 2
            have x3 := HX8.cell 3
            have x4 := HX8.cell 4
            simp at x0 x1 x2 x3 x4
            have hsz8 := HBW8.out.size
            go_wp2_with (at_builtin; refine wp_append1O (news := [.int .i64 y.f, .int .i64 y.t, .int .i64 (j.e - d), .int .i64 y.r, .int .i64 y.k]) elemJ HR8.out hsz8 HN1.out (by decide) rfl (oneJ ⟨y.f, y.t, j.e - d, y.r, y.k⟩) rfl _ _ rfl rfl rfl rfl ?_)
            intro v2 w4 hr2 hgr _
            have hba := below_alloc (Below.refl W8.heap.size W8) (.cells #[.int .i64 y.f, .int .i64 y.t, .int .i64 (j.e - d), .int .i64 y.r, .int .i64 y.k] 27)
            have HB9 := Lib.hid ((below_step HB8.out hba).grown hgr (by have := HB8.out.size; rw [World.size_alloc]; omega) (fun b e => by have := ((HR8.out).lt b e).1; have := HB5S.out; omega))
            have HBW9 := Lib.hid ((below_step HBW8.out hba).grown hgr (by rw [World.size_alloc]; omega) (fun b e => (HR8.out.lt b e).1))
            have HR9 : Hid (w4.ownsRow W5.heap.size 27 5 v2 (leftJ J D (k + 1)).length (flatJ (leftJ J D (k + 1)))) := Lib.hid (by
              rw [HLSk.out, List.length_append, flatJ_snoc, HYE.out]
              exact hr2)
            clear hr2 hgr hba
            go_wp2
            go_round
            case rel => exact ⟨k + 1, hlt, by go_num, HB9.out, HBW9.out, HR9.out⟩
            case measure => exact meas_lt hlt
          · have hy0 : y.t = 0 := by omega
            have h0 := hao hy0
            rw [hy0] at a1
            rw [h0] at a2
            rw [if_neg (by rw [hy0]; decide)] at HLSk
            have n4 : (j.e - 0 != d) = false := by rw [show j.e - 0 = d by omega]; simp
            have n5 : (j.e != d) = false := by rw [show j.e = d by omega]; simp
            clear hao hye
            go_wp2_with fail
            obtain ⟨W7, hW7⟩ : ∃ W, W = wB.alloc (.cells #[.int .i64 y.f, .int .i64 0, .int .i64 0, .int .i64 y.r, .int .i64 y.k] 27) := ⟨_, rfl⟩
            have hb7 : Below wB.heap.size wB W7 := by rw [hW7]; exact below_alloc (Below.refl _ _) _
            have HX7 : Blk W7 wB.heap.size 27 #[.int .i64 y.f, .int .i64 0, .int .i64 0, .int .i64 y.r, .int .i64 y.k] := by rw [hW7]; exact Blk.new ..
            rw [← hW7]
            clear hW7
            have c2' := cell_kept hb7 c2
            have d0' := cell_kept hb7 d0
            have HB7 := Lib.hid (below_step HB.out hb7)
            have HBW7 := Lib.hid (below_step HBW.out hb7)
            have HR7 := Lib.hid (ownsRow_later HR.out hb7)
            clear hb7 c0 c1 c2 c3 c4 a0 a1 a2 a3 a4 d0
            obtain ⟨YB, hYB⟩ : ∃ B, wB.heap.size = B := ⟨_, rfl⟩
            rw [hYB] at HX7
            rw [hYB]
            clear hYB
            have x0 := HX7.cell 0
            have x1 := HX7.cell 1
            have x2 := HX7.cell 2
            have x3 := HX7.cell 3
            have x4 := HX7.cell 4
            simp at x0 x1 x2 x3 x4
            go_quiet (fail)
            obtain ⟨W8, hW8⟩ : ∃ W, W = W7.drewN nq := ⟨_, rfl⟩
            have hb8 : Below W7.heap.size W7 W8 := by rw [hW8]; exact below_drewN (Below.refl _ _) nq
            rw [← hW8]
            clear hW8 x0 x1 x2 x3 x4 c2' d0'
            have HX8 := HX7.later hb8
            have HB8 := Lib.hid (below_step HB7.out hb8)
            have HBW8 := Lib.hid (below_step HBW7.out hb8)
            have HR8 := Lib.hid (ownsRow_later HR7.out hb8)
            clear hb8 HX7 HB7 HBW7 HR7 HB HBW HR
            have x0 := HX8.cell 0
            have x1 := HX8.cell 1
            have x2 := HX8.cell 2
            have x3 := HX8.cell 3
            have x4 := HX8.cell 4
            simp at x0 x1 x2 x3 x4
            go_wp2
            exact ⟨⟨k + 1, hlt, by go_num, HB8.out, HBW8.out, by rw [HLSk.out]; exact HR8.out⟩, meas_lt hlt⟩
        · obtain rfl : k = J.length := by omega
          obtain ⟨oL, cL, rfl, _⟩ := ownsRow_shapeQ HR.out
          have HEND : OUT (.returned (.tuple #[.slice oL (leftJ J D J.length).length cL, .slice oT T.length cT, .bool true])) wB := by
            rw [← HOUT.out]
            exact ⟨HB.out, leftJ J D J.length, oL, oT, cL, cT, by rw [HT.out], HR.out.mono HB5S.out, by rw [HT.out]; exact ownsRow_later HRT.out HBW.out, HLK.out⟩
          go_wp2
          exact HEND
end Go.Proofs.Ythgkfdhkmkbioaa
