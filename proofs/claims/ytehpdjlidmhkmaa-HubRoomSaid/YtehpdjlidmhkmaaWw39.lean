/- Chapter 39: HubRoom. -/
import Derived.Test.YtehpdjlidmhkmaaWu39
namespace Go.Proofs.Ytehpdjlidmhkmaa
open Go.RowKit
attribute [local go_sem] Oper.semAt_some

theorem run_f {f : Int} : ∀ {ws : List Msg} {p : Int} (n : Int), waitsOk f p ws = true → ∀ i, i < (runOf n ws).length → (getM (runOf n ws) i).f = f
  | [], _, n, _, i, h => by simp [runOf] at h
  | m :: ms, p, n, hw, i, h => by
    rw [waitsOk_cons] at hw
    rw [runOf] at h ⊢
    by_cases he : m.n = n
    · rw [if_pos he] at h ⊢
      cases i with
      | zero => simpa [getM] using hw.2.1
      | succ i =>
        have := run_f (n + 1) hw.2.2.2 i (by simpa using h)
        exact this
    · rw [if_neg he] at h
      simp at h
/-- What is handed over with the next number of an inbox. -/
theorem room_over {l : List Bx} {i : Nat} {body : Int} (hl : validL l = true) (hi : i < l.length) (hx : (getB l i).x ≤ 1000000) (hb : 0 ≤ body ∧ body ≤ 1000000000) :
    recvE l ⟨(getB l i).f, (getB l i).x, body⟩ = 0 ∧ (outM l ⟨(getB l i).f, (getB l i).x, body⟩).length ≥ 1 ∧
    many (outL l ⟨(getB l i).f, (getB l i).x, body⟩) + (outM l ⟨(getB l i).f, (getB l i).x, body⟩).length = many l + 1 ∧
    ∀ k, k < (outM l ⟨(getB l i).f, (getB l i).x, body⟩).length → (getM (outM l ⟨(getB l i).f, (getB l i).x, body⟩) k).n = (getB l i).x + k ∧ (getM (outM l ⟨(getB l i).f, (getB l i).x, body⟩) k).f = (getB l i).f := by
  have ht := next_took hl hi hx hb
  have hz := ht.zero
  obtain ⟨h1, h2, h3, h4⟩ := of_at (validL_iff.1 hl).2.2 hi
  have hm := ht.many
  have ho := ht.over
  simp only [h1] at ho
  have hwt := (validB_iff.1 h4).2.2
  have e : ov (getB l i) ⟨(getB l i).f, (getB l i).x, body⟩ = ⟨(getB l i).f, (getB l i).x, body⟩ :: runOf ((getB l i).x + 1) (getB l i).ws := by
    unfold ov
    rw [if_neg (by simp)]
  rw [e] at ho
  refine ⟨hz, ?_, ?_, ?_⟩
  · rw [outM_zero hz, ho]
    simp
  · rw [outM_zero hz, outL_zero hz]
    exact hm
  · rw [outM_zero hz, ho]
    intro k hk
    cases k with
    | zero => exact ⟨by simp [getM], by simp [getM]⟩
    | succ k =>
      have hk' : k < (runOf ((getB l i).x + 1) (getB l i).ws).length := by simpa using hk
      have g1 := run_num ((getB l i).x + 1) (getB l i).ws k hk'
      have g2 := run_f ((getB l i).x + 1) hwt k hk'
      refine ⟨?_, g2⟩
      show (getM (runOf ((getB l i).x + 1) (getB l i).ws) k).n = _
      rw [g1]
      omega

set_option maxRecDepth 100000 in
set_option maxHeartbeats 16000000 in
theorem room_walk (o : Option Addr) (cap : Nat) (l : List Bx) (which body : Int) (w : World) (hr : Bxs w o l) (hl : l.length ≤ 1000000000000000) : Calls Try.prog 8 #[.slice o l.length cap, .int .i64 which, .int .i64 body] w (Ret (.bool true) w) := by
  have HR := Lib.hid hr
  clear hr
  go_enter Try.func8, Try.ntmps8
  go_wp2_with fail
  refine (head_any _).mono ?_
  rintro e x1 ⟨rfl, hb⟩
  have HW := Lib.hid hb
  clear hb
  go_wp2_with fail
  refine (few_any o cap l _ (HR.out.later HW.out) (by omega)).mono ?_
  rintro e x2 ⟨rfl, hb⟩
  replace HW := Lib.hid (below_step HW.out hb)
  clear hb
  obtain ⟨F, hF⟩ : ∃ F, fewL l = F := ⟨_, rfl⟩
  rw [hF]
  clear hF
  cases F with
  | false =>
    go_wp2
    go_ret
    exact ⟨rfl, HW.out⟩
  | true =>
  go_wp2_with fail
  refine (refValid_any o cap l _ (HR.out.later HW.out) (by omega)).mono ?_
  rintro e x3 ⟨rfl, hb⟩
  replace HW := Lib.hid (below_step HW.out hb)
  clear hb
  obtain ⟨V, hV⟩ : ∃ V, validL l = V := ⟨_, rfl⟩
  rw [hV]
  have HV := Lib.hid hV
  clear hV
  cases V with
  | false =>
    go_wp2
    go_ret
    exact ⟨rfl, HW.out⟩
  | true =>
  by_cases hl0 : l.length = 0
  · have hl0b : ((l.length : Int) == 0) = true := by rw [beq_iff_eq]; omega
    clear hl0
    go_wp2
    go_ret
    exact ⟨rfl, HW.out⟩
  have hl0b : ((l.length : Int) == 0) = false := by rw [beq_eq_false_iff_ne]; omega
  by_cases hw0 : which < 0
  · have hwd : decide (which < 0) = true := by simpa using hw0
    go_wp2
    go_ret
    exact ⟨rfl, HW.out⟩
  have hwd : decide (which < 0) = false := by simpa using hw0
  by_cases hb0 : body < 0
  · have hbd : decide (body < 0) = true := by simpa using hb0
    go_wp2
    go_ret
    exact ⟨rfl, HW.out⟩
  have hbd0 : decide (body < 0) = false := by simpa using hb0
  by_cases hb1 : 1000000000 < body
  · have hbd1 : decide (1000000000 < body) = true := by simpa using hb1
    go_wp2
    go_ret
    exact ⟨rfl, HW.out⟩
  have hbd1 : decide (1000000000 < body) = false := by simpa using hb1
  obtain ⟨q, rfl⟩ : ∃ q : Nat, which = (q : Int) := ⟨which.toNat, by omega⟩
  obtain ⟨T, hT⟩ : ∃ T, q % l.length = T := ⟨_, rfl⟩
  have hTl : T < l.length := by rw [← hT]; exact Nat.mod_lt _ (by omega)
  have eT : (q : Int) % (l.length : Int) = (T : Int) := by rw [← hT]; simp
  clear hT
  have HVL := Lib.hid (validL_iff.1 HV.out)
  have hl64 := HVL.out.1
  have hm64 := HVL.out.2.1
  have HRO := Lib.hid (fun h1 h2 => room_over (l := l) (i := T) (body := body) HV.out hTl h1 h2)
  obtain ⟨g, off, hgo, oo, cp, hw1, hw2, hms, c0, c1, c2⟩ := (HR.out.later HW.out) T hTl
  subst hgo
  have hxx := (validB_iff.1 (of_at HVL.out.2.2 hTl).2.2.2).2.1
  obtain ⟨x, hx⟩ : ∃ x, getB l T = x := ⟨_, rfl⟩
  rw [hx] at c0 c1 c2 hw1 hw2 hxx HRO
  clear hx hms
  have y1 : (0 : Int) ≤ (T : Int) := by omega
  have y2 : (T : Int) < (l.length : Int) := by omega
  have HXB := Lib.hid (Box3.new x3 42 (.int .i64 x.f) (.int .i64 x.x) (.slice oo x.ws.length cp))
  by_cases hx1 : 1000000 < x.x
  · have hxd : decide (1000000 < x.x) = true := by simpa using hx1
    go_wp2
    go_ret
    exact ⟨rfl, below_step HW.out HXB.out.below⟩
  have hxd : decide (1000000 < x.x) = false := by simpa using hx1
  replace HRO := Lib.hid (HRO.out (by omega) (by omega))
  go_wp2_with fail
  clear c0 c1 c2 y1 y2 eT hwd hbd0 hbd1 hxd hl0b
  replace HW := Lib.hid (below_step HW.out HXB.out.below)
  refine (Receive_any (some ⟨g, off, none⟩) cap l ⟨x.f, x.x, body⟩ _ (HR.out.later HW.out) hl).mono ?_
  rintro e x4 ⟨hb, oa, ox, ca, cx, rfl, hx, hy⟩
  replace HW := Lib.hid (below_step HW.out hb)
  replace HXB := Lib.hid (HXB.out.later hb)
  have HA := Lib.hid hx
  have HX := Lib.hid hy
  clear hb hx hy
  have hla := outL_le l ⟨x.f, x.x, body⟩
  have hlx := outM_le l ⟨x.f, x.x, body⟩
  have HLA0 := Lib.hid (show (outL l ⟨x.f, x.x, body⟩).length ≤ 1000 from by
    unfold outL
    rw [if_pos HRO.out.1]
    have := (validL_iff.1 (took HRO.out.1).valid).1
    omega)
  obtain ⟨LA, hLA⟩ : ∃ L, outL l ⟨x.f, x.x, body⟩ = L := ⟨_, rfl⟩
  obtain ⟨LX, hLX⟩ : ∃ L, outM l ⟨x.f, x.x, body⟩ = L := ⟨_, rfl⟩
  rw [hLA] at HA hla HRO HLA0
  rw [hLX] at HX hlx HRO
  rw [hLA, hLX, HRO.out.1]
  clear hLA hLX
  have HK := Lib.hid HRO.out.2.2.2
  have HMY := Lib.hid HRO.out.2.2.1
  have hx1 := HRO.out.2.1
  have hx65 : LX.length ≤ 65 := by have := HMY.out; omega
  clear HRO
  go_wp2
  go_loopw [7, 14] (fun d i wr => ∃ k : Nat, k ≤ LX.length ∧ d = .bool true ∧ i = .int .i64 k ∧ Below x4.heap.size x4 wr) (fun _ i _ => LX.length - (intOf i).toNat)
  case atStart => exact ⟨0, Nat.zero_le _, rfl, rfl, Below.refl _ _⟩
  case round =>
    obtain ⟨k, hk, rfl, rfl, hb⟩ := hrel
    have HB := Lib.hid hb
    clear hb
    by_cases hlt : k < LX.length
    · obtain ⟨h, oh, hho, d0, d1, d2⟩ := (HX.out.later HB.out) k hlt
      subst hho
      obtain ⟨hn, hf⟩ := HK.out k hlt
      rw [hn] at d1
      rw [hf] at d0
      clear hn hf d2
      have b0 := cell_kept HB.out HXB.out.c0
      have b1 := cell_kept HB.out HXB.out.c1
      have y1 : (0 : Int) ≤ (k : Int) := by omega
      have y2 : (k : Int) < (LX.length : Int) := by omega
      have ew : IntKind.i64.wrap (x.x + (k : Int)) = x.x + (k : Int) := IntWalk.i64_in _ (by omega)
      go_wp2_with fail
      go_quiet (fail)
      clear ew
      go_wp2
      go_roundw
      case rel => exact ⟨k + 1, by omega, rfl, by go_num, below_drewN HB.out _⟩
      case measure => simp [intOf]; omega
    · obtain rfl : k = LX.length := by omega
      clear hk
      have hge : decide ((1 : Int) ≤ (LX.length : Int)) = true := by rw [decide_eq_true_eq]; omega
      have hW2 := below_step HW.out HB.out
      have HBW := Lib.hid hW2
      have HM1 := Lib.hid (refMany_any oa ca LA wr (HA.out.later HB.out) HLA0.out)
      have HM2 := Lib.hid (fun w' hb' => refMany_any (some ⟨g, off, none⟩) cap l w' (HR.out.later (below_step HBW.out hb')) (by omega))
      obtain ⟨A, hA⟩ : ∃ A, many LA = A := ⟨_, rfl⟩
      obtain ⟨B, hB⟩ : ∃ B, many l = B := ⟨_, rfl⟩
      rw [hA] at HM1 HMY
      rw [hB] at HM2 HMY hm64
      have eAB : ((A : Int) == (B : Int) - (LX.length : Int) + 1) = true := by rw [beq_iff_eq]; have := HMY.out; omega
      clear hA hB hW2 hlt
      go_wp2_with fail
      refine HM1.out.mono ?_
      rintro e x5 ⟨rfl, hb⟩
      have HB5 := Lib.hid hb
      clear hb
      go_wp2_with fail
      refine (HM2.out _ HB5.out).mono ?_
      rintro e x6 ⟨rfl, hb⟩
      have HB6 := Lib.hid (below_step HBW.out (below_step HB5.out hb))
      clear hb
      go_wp2
      go_ret
      exact ⟨rfl, HB6.out⟩
end Go.Proofs.Ytehpdjlidmhkmaa
