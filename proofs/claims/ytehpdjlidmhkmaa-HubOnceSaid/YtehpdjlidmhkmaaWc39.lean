/- Chapter 39: validInbox, Valid. -/
import Derived.Test.YtehpdjlidmhkmaaWb39
namespace Go.Proofs.Ytehpdjlidmhkmaa
open Go.RowKit
attribute [local go_sem] Oper.semAt_some

theorem dropM {l : List Msg} {k : Nat} (h : k < l.length) : l.drop k = getM l k :: l.drop (k + 1) := by rw [List.drop_eq_getElem_cons h, getM_eq h]
theorem dropB {l : List Bx} {k : Nat} (h : k < l.length) : l.drop k = getB l k :: l.drop (k + 1) := by rw [List.drop_eq_getElem_cons h, getB_eq h]

set_option maxHeartbeats 4000000 in
theorem validInbox_any (b : Bx) (o : Option Addr) (cap : Nat) (w : World) (hm : Msgs w o b.ws) (hl : b.ws.length ≤ 6000000000000) : Calls Try.prog 38 #[bxV b o cap] w (Ret (.bool (validB b)) w) := by
  have HM := Lib.hid hm
  clear hm
  obtain ⟨V, hV⟩ : ∃ V, validB b = V := ⟨_, rfl⟩
  rw [hV]
  have HV := Lib.hid hV
  clear hV
  by_cases h1 : (0 ≤ b.f ∧ b.f ≤ 1000000) ∧ (1 ≤ b.x ∧ b.x ≤ 1000001)
  · have i1 : inBand b.f 0 1000000 = true := by simp [inBand, h1.1]
    have i2 : inBand b.x 1 1000001 = true := by simp [inBand, h1.2]
    have HW := Lib.hid (show waitsOk b.f b.x b.ws = V by rw [← HV.out]; unfold validB; rw [decide_eq_true h1]; rfl)
    clear h1
    go_enter Try.func38, Try.ntmps38
    go_wp2_with (go_at_call 39; refine (inside_any _ _ _ _).mono ?_; rintro e w' ⟨rfl, rfl⟩)
    clear i1 i2
    have HX := Lib.hid (Box3.new w 42 (.int .i64 b.f) (.int .i64 b.x) (.slice o b.ws.length cap))
    go_loopw [3, 21] (fun s i wr => ∃ (k : Nat) (z : Int), k ≤ b.ws.length ∧ i = .int .i64 k ∧ s = .int .i64 z ∧ waitsOk b.f z (b.ws.drop k) = V ∧ Box3 w wr (.int .i64 b.f) (.int .i64 b.x) (.slice o b.ws.length cap)) (fun _ i _ => b.ws.length - (intOf i).toNat)
    case atStart => exact ⟨0, b.x, Nat.zero_le _, rfl, rfl, HW.out, HX.out⟩
    case round =>
      obtain ⟨k, z, hk, rfl, rfl, hz, hx⟩ := hrel
      have HZ := Lib.hid hz
      have HX1 := Lib.hid hx
      clear hz hx HX
      by_cases hlt : k < b.ws.length
      · obtain ⟨g, off, hgo, c0, c1, c2⟩ := (HM.out.later HX1.out.below) k hlt
        subst hgo
        have HD := Lib.hid (dropM hlt)
        obtain ⟨m, hm⟩ : ∃ m, getM b.ws k = m := ⟨_, rfl⟩
        rw [hm] at c0 c1 c2 HD
        clear hm
        have HS := Lib.hid (show (validM m && decide (m.f = b.f) && decide (z < m.n) && waitsOk b.f m.n (b.ws.drop (k + 1))) = V by rw [← HZ.out, HD.out]; rfl)
        have y1 : (0 : Int) ≤ (k : Int) := by omega
        have y2 : (k : Int) < (b.ws.length : Int) := by omega
        go_wp2_with fail
        clear c0 c1 c2
        refine (validMessage_any m _).mono ?_
        rintro e w2 ⟨rfl, hb2⟩
        have HX2 := Lib.hid ((HX1.out.alloc _).later hb2)
        have HBM := Lib.hid (show Blk w2 wr.heap.size 24 #[.int .i64 m.f, .int .i64 m.n, .int .i64 m.b] from (Blk.new ..).later hb2)
        clear hb2
        have c0 := HX2.out.c0
        have m0 : w2.cell? ⟨wr.heap.size, 0, none⟩ = some (.int .i64 m.f) := HBM.out.cell 0
        have m1 : w2.cell? ⟨wr.heap.size, 1, none⟩ = some (.int .i64 m.n) := HBM.out.cell 1
        cases hv : validM m with
        | false =>
          obtain rfl : false = V := by rw [← HS.out, hv]; rfl
          go_wp2
          go_ret
          exact ⟨rfl, HX2.out.below⟩
        | true =>
          by_cases hf : m.f = b.f
          · by_cases hn : z < m.n
            · have HN := Lib.hid (show waitsOk b.f m.n (b.ws.drop (k + 1)) = V by rw [← HS.out, hv, decide_eq_true hf, decide_eq_true hn]; rfl)
              rw [hf] at m0
              clear hf hv
              have hn2 : decide (m.n ≤ z) = false := by simp; omega
              go_wp2
              go_roundw
              case rel => exact ⟨k + 1, m.n, by omega, by go_num, rfl, HN.out, HX2.out⟩
              case measure => simp [intOf]; omega
            · obtain rfl : false = V := by rw [← HS.out, hv, decide_eq_false hn, Bool.and_false, Bool.false_and]
              rw [hf] at m0
              clear hf hv
              have hn2 : decide (m.n ≤ z) = true := by simp; omega
              go_wp2
              go_ret
              exact ⟨rfl, HX2.out.below⟩
          · obtain rfl : false = V := by rw [← HS.out, decide_eq_false hf, Bool.and_false, Bool.false_and, Bool.false_and]
            have hfb : (m.f == b.f) = false := by simpa using hf
            have hfb2 : (m.f != b.f) = true := by rw [bne, hfb]; rfl
            clear hf
            go_wp2
            go_ret
            exact ⟨rfl, HX2.out.below⟩
      · obtain rfl : k = b.ws.length := by omega
        obtain rfl : true = V := by rw [← HZ.out, List.drop_length]; rfl
        go_wp2
        go_ret
        exact ⟨rfl, HX1.out.below⟩
  · obtain rfl : false = V := by rw [← HV.out]; unfold validB; rw [decide_eq_false h1]; rfl
    by_cases h2 : 0 ≤ b.f ∧ b.f ≤ 1000000
    · have i1 : inBand b.f 0 1000000 = true := by simp [inBand, h2]
      have i2 : inBand b.x 1 1000001 = false := by simp [inBand]; omega
      clear h1
      go_enter Try.func38, Try.ntmps38
      go_wp2_with (go_at_call 39; refine (inside_any _ _ _ _).mono ?_; rintro e w' ⟨rfl, rfl⟩)
      go_ret
      exact ⟨rfl, by go_grown⟩
    · have i1 : inBand b.f 0 1000000 = false := by simp [inBand]; omega
      clear h1
      go_enter Try.func38, Try.ntmps38
      go_wp2_with (go_at_call 39; refine (inside_any _ _ _ _).mono ?_; rintro e w' ⟨rfl, rfl⟩)
      go_ret
      exact ⟨rfl, by go_grown⟩

set_option maxHeartbeats 4000000 in
theorem Valid_any (o : Option Addr) (cap : Nat) (l : List Bx) (w : World) (hr : Bxs w o l) (hl : l.length ≤ 9000000000000000000) : Calls Try.prog 19 #[.slice o l.length cap] w (Ret (.bool (validL l)) w) := by
  have HR := Lib.hid hr
  clear hr
  obtain ⟨V, hV⟩ : ∃ V, validL l = V := ⟨_, rfl⟩
  rw [hV]
  have HV := Lib.hid hV
  clear hV
  by_cases h64 : 64 < l.length
  · obtain rfl : false = V := by rw [← HV.out]; unfold validL; rw [decide_eq_false (by omega)]; rfl
    have hd : decide ((64 : Int) < (l.length : Int)) = true := by simp; omega
    go_enter Try.func19, Try.ntmps19
    go_wp2
    go_ret
    exact ⟨rfl, Below.refl _ _⟩
  have hd : decide ((64 : Int) < (l.length : Int)) = false := by simp; omega
  go_enter Try.func19, Try.ntmps19
  go_wp2_with fail
  refine (waiting_any o cap l w HR.out (by omega)).mono ?_
  rintro e w1 ⟨rfl, hb1⟩
  have HB1 := Lib.hid hb1
  clear hb1
  obtain ⟨N, hN⟩ : ∃ N, many l = N := ⟨_, rfl⟩
  rw [hN]
  by_cases hm : 64 < N
  · obtain rfl : false = V := by rw [← HV.out]; unfold validL; rw [hN, decide_eq_false (show ¬ N ≤ 64 by omega), Bool.and_false, Bool.false_and]
    have hd2 : decide ((64 : Int) < (N : Int)) = true := by simp; omega
    clear hN
    go_wp2
    go_ret
    exact ⟨rfl, HB1.out⟩
  have HF := Lib.hid (show fromsOk (-1) l = V by rw [← HV.out]; unfold validL; rw [hN, decide_eq_true (show l.length ≤ 64 by omega), decide_eq_true (show N ≤ 64 by omega)]; rfl)
  have hd2 : decide ((64 : Int) < (N : Int)) = false := by simp; omega
  clear hN
  go_wp2
  go_loopw [3, 16] (fun s i wr => ∃ (k : Nat) (z : Int), k ≤ l.length ∧ i = .int .i64 k ∧ s = .int .i64 z ∧ fromsOk z (l.drop k) = V ∧ Below w.heap.size w wr) (fun _ i _ => l.length - (intOf i).toNat)
  case atStart => exact ⟨0, -1, Nat.zero_le _, rfl, rfl, HF.out, HB1.out⟩
  case round =>
    obtain ⟨k, z, hk, rfl, rfl, hz, hb⟩ := hrel
    have HZ := Lib.hid hz
    have HB := Lib.hid hb
    clear hz hb
    by_cases hlt : k < l.length
    · obtain ⟨g, off, hgo, oo, cp, hw1, _, hms, c0, c1, c2⟩ := (HR.out.later HB.out) k hlt
      subst hgo
      have HD := Lib.hid (dropB hlt)
      obtain ⟨x, hx⟩ : ∃ x, getB l k = x := ⟨_, rfl⟩
      rw [hx] at c0 c1 c2 HD hw1 hms
      have HMS := Lib.hid hms
      clear hx hms
      have HS := Lib.hid (show (decide (z < x.f) && validB x && fromsOk x.f (l.drop (k + 1))) = V by rw [← HZ.out, HD.out]; rfl)
      have y1 : (0 : Int) ≤ (k : Int) := by omega
      have y2 : (k : Int) < (l.length : Int) := by omega
      by_cases hf : z < x.f
      · have hfb : decide (x.f ≤ z) = false := by simp; omega
        go_wp2_with fail
        clear c0 c1 c2
        refine (validInbox_any x oo cp _ (HMS.out.later (below_alloc (Below.refl _ _) _)) hw1).mono ?_
        rintro e w2 ⟨rfl, hb2⟩
        have HBM := Lib.hid (show Blk w2 wr.heap.size 42 #[.int .i64 x.f, .int .i64 x.x, .slice oo x.ws.length cp] from (Blk.new ..).later hb2)
        have HB2 := Lib.hid (below_step (below_alloc HB.out _) hb2)
        clear hb2
        have m0 : w2.cell? ⟨wr.heap.size, 0, none⟩ = some (.int .i64 x.f) := HBM.out.cell 0
        cases hv : validB x with
        | false =>
          obtain rfl : false = V := by rw [← HS.out, hv, Bool.and_false, Bool.false_and]
          go_wp2
          go_ret
          exact ⟨rfl, HB2.out⟩
        | true =>
          have HN := Lib.hid (show fromsOk x.f (l.drop (k + 1)) = V by rw [← HS.out, hv, decide_eq_true hf]; rfl)
          clear hv
          go_wp2
          go_roundw
          case rel => exact ⟨k + 1, x.f, by omega, by go_num, rfl, HN.out, HB2.out⟩
          case measure => simp [intOf]; omega
      · obtain rfl : false = V := by rw [← HS.out, decide_eq_false hf]; rfl
        have hfb : decide (x.f ≤ z) = true := by simp; omega
        go_wp2
        go_ret
        exact ⟨rfl, below_alloc HB.out _⟩
    · obtain rfl : k = l.length := by omega
      obtain rfl : true = V := by rw [← HZ.out, List.drop_length]; rfl
      go_wp2
      go_ret
      exact ⟨rfl, HB.out⟩
end Go.Proofs.Ytehpdjlidmhkmaa
