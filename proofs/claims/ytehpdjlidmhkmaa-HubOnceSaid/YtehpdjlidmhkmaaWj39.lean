/- Chapter 39: Valid of the reference. -/
import Derived.Test.YtehpdjlidmhkmaaWi39
namespace Go.Proofs.Ytehpdjlidmhkmaa
open Go.RowKit
attribute [local go_sem] Oper.semAt_some

def prevF (l : List Bx) (k : Nat) : Int := if k = 0 then -1 else (getB l (k - 1)).f
def prevN (x : Int) (l : List Msg) (k : Nat) : Int := if k = 0 then x else (getM l (k - 1)).n
theorem validL_froms {l : List Bx} {V : Bool} (h : validL l = V) (hf : fromsOk (-1) l = false) : false = V := by
  rw [← h]; unfold validL; rw [hf, Bool.and_false]
theorem waits_not {f z : Int} {m : Msg} {ms : List Msg} (h : validM m = false ∨ ¬ m.f = f ∨ m.n ≤ z) : waitsOk f z (m :: ms) = false := by
  rw [Bool.eq_false_iff]
  intro e
  rw [waitsOk_cons] at e
  rcases h with h | h | h
  · rw [h] at e; cases e.1
  · exact h e.2.1
  · omega
theorem froms_not {z : Int} {x : Bx} {xs : List Bx} (h : x.f < 0 ∨ 1000000 < x.f ∨ x.x < 1 ∨ 1000001 < x.x ∨ x.f ≤ z ∨ waitsOk x.f x.x x.ws = false) : fromsOk z (x :: xs) = false := by
  rw [Bool.eq_false_iff]
  intro e
  rw [fromsOk_cons, validB_iff] at e
  rcases h with h | h | h | h | h | h
  all_goals first | omega | skip
  rw [h] at e
  cases e.2.1.2.2
theorem froms_yes {z : Int} {x : Bx} {xs : List Bx} (h1 : 0 ≤ x.f) (h2 : x.f ≤ 1000000) (h3 : 1 ≤ x.x) (h4 : x.x ≤ 1000001) (h5 : z < x.f) (h6 : waitsOk x.f x.x x.ws = true) : fromsOk z (x :: xs) = fromsOk x.f xs := by
  rw [Bool.eq_iff_iff, fromsOk_cons, validB_iff]
  exact ⟨fun h => h.2.2, fun h => ⟨h5, ⟨⟨h1, h2⟩, ⟨h3, h4⟩, h6⟩, h⟩⟩
theorem waits_yes {f z : Int} {m : Msg} {ms : List Msg} (h1 : validM m = true) (h2 : m.f = f) (h3 : z < m.n) : waitsOk f z (m :: ms) = waitsOk f m.n ms := by
  rw [Bool.eq_iff_iff, waitsOk_cons]
  exact ⟨fun h => h.2.2.2, fun h => ⟨h1, h2, h3, h⟩⟩

set_option maxRecDepth 100000 in
set_option maxHeartbeats 16000000 in
theorem refValid_any (o : Option Addr) (cap : Nat) (l : List Bx) (w : World) (hr : Bxs w o l) (hl : l.length ≤ 9000000000000000000) : Calls Try.prog 20 #[.slice o l.length cap] w (Ret (.bool (validL l)) w) := by
  have HR := Lib.hid hr
  clear hr
  obtain ⟨V, hV⟩ : ∃ V, validL l = V := ⟨_, rfl⟩
  rw [hV]
  have HV := Lib.hid hV
  clear hV
  go_enter Try.func20, Try.ntmps20
  go_wp2
  go_loopw [3] (fun i wr => ∃ k : Nat, k ≤ l.length ∧ i = .int .i64 k ∧ fromsOk (-1) l = fromsOk (prevF l k) (l.drop k) ∧ Below w.heap.size w wr) (fun i _ => l.length - (intOf i).toNat)
  case atStart => exact ⟨0, Nat.zero_le _, rfl, rfl, Below.refl _ _⟩
  case round =>
    obtain ⟨k, hk, rfl, hz, hb⟩ := hrel
    have HZ := Lib.hid hz
    have HB := Lib.hid hb
    clear hz hb
    by_cases hlt : k < l.length
    · obtain ⟨g, off, hgo, oo, cp, hw1, _, hms, c0, c1, c2⟩ := (HR.out.later HB.out) k hlt
      have HLP : Hid (0 < k → ∃ p : Bx, getB l (k - 1) = p ∧ wr.cell? ⟨g, off + (k - 1) * 3, none⟩ = some (.int .i64 p.f)) := Lib.hid fun hk0 => by
        obtain ⟨g', off', hgo', oo', cp', _, _, _, d0, _⟩ := (HR.out.later HB.out) (k - 1) (by omega)
        rw [hgo] at hgo'
        injection hgo' with hgo'
        injection hgo' with e1 e2
        subst e1
        subst e2
        exact ⟨_, rfl, d0⟩
      subst hgo
      have HD := Lib.hid (dropB hlt)
      obtain ⟨x, hx⟩ : ∃ x, getB l k = x := ⟨_, rfl⟩
      have HPF := Lib.hid (show prevF l (k + 1) = x.f by unfold prevF; rw [if_neg (by omega), Nat.add_sub_cancel, hx])
      rw [hx] at c0 c1 c2 HD hw1 hms
      have HMS := Lib.hid hms
      clear hx hms
      have HBAD : Hid (∀ {v : Bool}, fromsOk (prevF l k) (x :: l.drop (k + 1)) = false → false = V) := Lib.hid fun h => validL_froms HV.out (by rw [HZ.out, HD.out, h])
      have y1 : (0 : Int) ≤ (k : Int) := by omega
      have y2 : (k : Int) < (l.length : Int) := by omega
      have HBX := Lib.hid (Box3.new wr 42 (.int .i64 x.f) (.int .i64 x.x) (.slice oo x.ws.length cp))
      have HGC := Lib.hid (And.intro c0 (And.intro c1 c2))
      go_wp2_with fail
      clear c0 c1 c2
      obtain ⟨W, hW⟩ : ∃ W : World, W = wr.alloc (.cells #[.int .i64 x.f, .int .i64 x.x, .slice oo x.ws.length cp] 42) := ⟨_, rfl⟩
      rw [← hW] at HBX ⊢
      clear hW
      have b0 := HBX.out.c0
      have b1 := HBX.out.c1
      have b2 := HBX.out.c2
      have HB2 := Lib.hid (below_step HB.out HBX.out.below)
      by_cases t1 : x.f < 0
      · have hd1 : decide (x.f < 0) = true := by simpa using t1
        obtain rfl : false = V := HBAD.out (v := true) (froms_not (.inl t1))
        go_quiet (fail)
        go_wp2
        go_ret
        exact ⟨rfl, below_drewN HB2.out _⟩
      by_cases t2 : 1000000 < x.f
      · have hd1 : decide (x.f < 0) = false := by simp; omega
        have hd2 : decide (1000000 < x.f) = true := by simpa using t2
        obtain rfl : false = V := HBAD.out (v := true) (froms_not (.inr (.inl t2)))
        go_quiet (fail)
        go_wp2
        go_ret
        exact ⟨rfl, below_drewN HB2.out _⟩
      by_cases t3 : x.x < 1
      · have hd1 : decide (x.f < 0) = false := by simp; omega
        have hd2 : decide (1000000 < x.f) = false := by simp; omega
        have hd3 : decide (x.x < 1) = true := by simpa using t3
        obtain rfl : false = V := HBAD.out (v := true) (froms_not (.inr (.inr (.inl t3))))
        go_quiet (fail)
        go_wp2
        go_ret
        exact ⟨rfl, below_drewN HB2.out _⟩
      by_cases t4 : 1000001 < x.x
      · have hd1 : decide (x.f < 0) = false := by simp; omega
        have hd2 : decide (1000000 < x.f) = false := by simp; omega
        have hd3 : decide (x.x < 1) = false := by simp; omega
        have hd4 : decide (1000001 < x.x) = true := by simpa using t4
        obtain rfl : false = V := HBAD.out (v := true) (froms_not (.inr (.inr (.inr (.inl t4)))))
        go_quiet (fail)
        go_wp2
        go_ret
        exact ⟨rfl, below_drewN HB2.out _⟩
      have hd1 : decide (x.f < 0) = false := by simp; omega
      have hd2 : decide (1000000 < x.f) = false := by simp; omega
      have hd3 : decide (x.x < 1) = false := by simp; omega
      have hd4 : decide (1000001 < x.x) = false := by simp; omega
      by_cases hk0 : k = 0
      · have hkb : decide (0 < k) = false := by simp; omega
        have HLT := Lib.hid (show prevF l k < x.f by unfold prevF; rw [if_pos hk0]; omega)
        clear hk0
        go_quiet (fail)
        go_wp2_with fail
        clear hd1 hd2 hd3 hd4
        go_loopw [5] (fun i wr => ∃ j : Nat, j ≤ x.ws.length ∧ i = .int .i64 j ∧ waitsOk x.f x.x x.ws = waitsOk x.f (prevN x.x x.ws j) (x.ws.drop j) ∧ x.x ≤ prevN x.x x.ws j ∧ Below W.heap.size W wr) (fun i _ => x.ws.length - (intOf i).toNat)
        case atStart => exact ⟨0, Nat.zero_le _, rfl, rfl, Int.le_refl _, below_drewN (Below.refl _ _) _⟩
        case round =>
          obtain ⟨j, hj, rfl, hzw, hpx, hbw⟩ := hrel
          have HZW := Lib.hid hzw
          have HBW := Lib.hid hbw
          clear hzw hbw
          clear b0 b1 b2
          have b0 := cell_kept HBW.out HBX.out.c0
          have b1 := cell_kept HBW.out HBX.out.c1
          have b2 := cell_kept HBW.out HBX.out.c2
          by_cases hlj : j < x.ws.length
          · obtain ⟨h, oh, hho, m0, m1, m2⟩ := ((HMS.out.later HBX.out.below).later HBW.out) j hlj
            have HLQ : Hid (0 < j → ∃ p : Msg, getM x.ws (j - 1) = p ∧ wr.cell? ⟨h, oh + (j - 1) * 3 + 1, none⟩ = some (.int .i64 p.n)) := Lib.hid fun hj0 => by
              obtain ⟨h', oh', hho', _, d1, _⟩ := ((HMS.out.later HBX.out.below).later HBW.out) (j - 1) (by omega)
              rw [hho] at hho'
              injection hho' with hho'
              injection hho' with e1 e2
              subst e1
              subst e2
              exact ⟨_, rfl, d1⟩
            subst hho
            have HDM := Lib.hid (dropM hlj)
            obtain ⟨m, hm⟩ : ∃ m, getM x.ws j = m := ⟨_, rfl⟩
            have HPN := Lib.hid (show prevN x.x x.ws (j + 1) = m.n by unfold prevN; rw [if_neg (by omega), Nat.add_sub_cancel, hm])
            rw [hm] at m0 m1 m2 HDM
            clear hm
            have HBADW : Hid (waitsOk x.f (prevN x.x x.ws j) (m :: x.ws.drop (j + 1)) = false → false = V) := Lib.hid fun h => HBAD.out (v := true) (froms_not (.inr (.inr (.inr (.inr (.inr (by rw [HZW.out, HDM.out, h]))))))) 
            have z1 : (0 : Int) ≤ (j : Int) := by omega
            have z2 : (j : Int) < (x.ws.length : Int) := by omega
            go_wp2_with fail
            refine (refMessage_any m _).mono ?_
            rintro e w3 ⟨rfl, hb3⟩
            have HBM := Lib.hid (show Blk w3 wr.heap.size 24 #[.int .i64 m.f, .int .i64 m.n, .int .i64 m.b] from (Blk.new ..).later hb3)
            have HB3 := Lib.hid (below_step (below_alloc (Below.refl wr.heap.size wr) _) hb3)
            have HB4 := Lib.hid (below_step HBW.out HB3.out)
            have HQC : Hid (0 < j → ∃ p : Msg, getM x.ws (j - 1) = p ∧ w3.cell? ⟨h, oh + (j - 1) * 3 + 1, none⟩ = some (.int .i64 p.n)) := Lib.hid fun hj0 => by
              obtain ⟨p, h1, h2⟩ := HLQ.out hj0
              exact ⟨p, h1, cell_kept HB3.out h2⟩
            replace b0 := cell_kept HB3.out b0
            replace b1 := cell_kept HB3.out b1
            replace b2 := cell_kept HB3.out b2
            clear hb3 m0 m1 m2 HLQ
            have m0 : w3.cell? ⟨wr.heap.size, 0, none⟩ = some (.int .i64 m.f) := HBM.out.cell 0
            have m1 : w3.cell? ⟨wr.heap.size, 1, none⟩ = some (.int .i64 m.n) := HBM.out.cell 1
            cases hv : validM m with
            | false =>
              obtain rfl : false = V := HBADW.out (waits_not (.inl hv))
              go_wp2_with fail
              go_quiet (fail)
              go_wp2
              go_ret
              exact ⟨rfl, below_drewN (below_step HB2.out HB4.out) _⟩
            | true =>
              have HVM := Lib.hid hv
              clear hv
              by_cases hf : m.f = x.f
              rotate_left
              · have hfb : (m.f != x.f) = true := by simpa using hf
                obtain rfl : false = V := HBADW.out (waits_not (.inr (.inl hf)))
                go_wp2_with fail
                go_quiet (fail)
                go_wp2
                go_ret
                exact ⟨rfl, below_drewN (below_step HB2.out HB4.out) _⟩
              have HF := Lib.hid hf
              rw [hf] at m0
              clear hf
              by_cases hn : m.n ≤ x.x
              · have hnb : decide (m.n ≤ x.x) = true := by simpa using hn
                obtain rfl : false = V := HBADW.out (waits_not (.inr (.inr (by omega))))
                go_wp2_with fail
                go_quiet (fail)
                go_wp2
                go_ret
                exact ⟨rfl, below_drewN (below_step HB2.out HB4.out) _⟩
              have hnb : decide (m.n ≤ x.x) = false := by simpa using hn
              by_cases hj0 : j = 0
              · have hjb : decide (0 < j) = false := by simp; omega
                have hjp : prevN x.x x.ws j = x.x := by unfold prevN; rw [if_pos hj0]
                have HJP := Lib.hid hjp
                clear hj0 hjp
                have HOK := Lib.hid (show waitsOk x.f x.x x.ws = waitsOk x.f (prevN x.x x.ws (j + 1)) (x.ws.drop (j + 1)) by rw [HPN.out, HZW.out, HDM.out]; exact waits_yes HVM.out HF.out (by rw [HJP.out]; omega))
                go_wp2_with fail
                go_quiet (fail)
                go_wp2
                go_roundw
                case rel => exact ⟨j + 1, by omega, by go_num, HOK.out, by rw [HPN.out]; omega, below_drewN HB4.out _⟩
                case measure => simp [intOf]; omega
              · obtain ⟨p, hp1, hp2⟩ := HQC.out (by omega)
                have hjp : prevN x.x x.ws j = p.n := by unfold prevN; rw [if_neg hj0, hp1]
                have HJP := Lib.hid hjp
                have hjb : decide (0 < j) = true := by simp; omega
                obtain ⟨j1, hj1⟩ : ∃ j1 : Nat, j - 1 = j1 := ⟨_, rfl⟩
                have ej : (j : Int) - 1 = (j1 : Int) := by omega
                rw [hj1] at hp2
                have z3 : (0 : Int) ≤ (j1 : Int) := by omega
                have z4 : (j1 : Int) < (x.ws.length : Int) := by omega
                have eW : IntKind.i64.wrap ((j : Int) - 1) = (j1 : Int) := by rw [ej]; exact IntWalk.i64_in _ (by omega)
                clear hj0 hjp hp1 hj1 HQC
                by_cases hq : m.n ≤ p.n
                · have hqb : decide (m.n ≤ p.n) = true := by simpa using hq
                  obtain rfl : false = V := HBADW.out (waits_not (.inr (.inr (by rw [HJP.out]; omega))))
                  go_wp2_with fail
                  go_quiet (fail)
                  go_wp2
                  go_ret
                  exact ⟨rfl, below_drewN (below_step HB2.out HB4.out) _⟩
                · have hqb : decide (m.n ≤ p.n) = false := by simpa using hq
                  have HOK := Lib.hid (show waitsOk x.f x.x x.ws = waitsOk x.f (prevN x.x x.ws (j + 1)) (x.ws.drop (j + 1)) by rw [HPN.out, HZW.out, HDM.out]; exact waits_yes HVM.out HF.out (by rw [HJP.out]; omega))
                  go_wp2_with fail
                  go_quiet (fail)
                  go_wp2
                  go_roundw
                  case rel => exact ⟨j + 1, by omega, by go_num, HOK.out, by rw [HPN.out]; omega, below_drewN HB4.out _⟩
                  case measure => simp [intOf]; omega
          · obtain rfl : j = x.ws.length := by omega
            have HWT := Lib.hid (show waitsOk x.f x.x x.ws = true by rw [HZW.out, List.drop_length]; rfl)
            have HNX := Lib.hid (show fromsOk (-1) l = fromsOk (prevF l (k + 1)) (l.drop (k + 1)) by rw [HPF.out, HZ.out, HD.out]; exact froms_yes (by omega) (by omega) (by omega) (by omega) HLT.out HWT.out)
            go_wp2
            go_roundw
            case rel => exact ⟨k + 1, by omega, by go_num, HNX.out, below_step HB2.out HBW.out⟩
            case measure => simp [intOf]; omega
      · obtain ⟨p, hp1, hp2⟩ := HLP.out (by omega)
        have hkb : decide (0 < k) = true := by simp; omega
        have HPP := Lib.hid (show prevF l k = p.f by unfold prevF; rw [if_neg hk0, hp1])
        obtain ⟨k1, hk1⟩ : ∃ k1 : Nat, k - 1 = k1 := ⟨_, rfl⟩
        have ek : (k : Int) - 1 = (k1 : Int) := by omega
        rw [hk1] at hp2
        replace hp2 := cell_kept HBX.out.below hp2
        have y3 : (0 : Int) ≤ (k1 : Int) := by omega
        have y4 : (k1 : Int) < (l.length : Int) := by omega
        have eW : IntKind.i64.wrap ((k : Int) - 1) = (k1 : Int) := by rw [ek]; exact IntWalk.i64_in _ (by omega)
        clear hk0 hp1 hk1
        by_cases hq : x.f ≤ p.f
        · have hqb : decide (x.f ≤ p.f) = true := by simpa using hq
          obtain rfl : false = V := HBAD.out (v := true) (froms_not (.inr (.inr (.inr (.inr (.inl (by rw [HPP.out]; omega)))))))
          go_quiet (fail)
          go_wp2
          go_ret
          exact ⟨rfl, below_drewN HB2.out _⟩
        have hqb : decide (x.f ≤ p.f) = false := by simpa using hq
        have HLT := Lib.hid (show prevF l k < x.f by rw [HPP.out]; omega)
        clear hq
        go_quiet (fail)
        clear hqb hp2 eW ek
        go_wp2_with fail
        clear hd1 hd2 hd3 hd4
        go_loopw [5] (fun i wr => ∃ j : Nat, j ≤ x.ws.length ∧ i = .int .i64 j ∧ waitsOk x.f x.x x.ws = waitsOk x.f (prevN x.x x.ws j) (x.ws.drop j) ∧ x.x ≤ prevN x.x x.ws j ∧ Below W.heap.size W wr) (fun i _ => x.ws.length - (intOf i).toNat)
        case atStart => exact ⟨0, Nat.zero_le _, rfl, rfl, Int.le_refl _, below_drewN (Below.refl _ _) _⟩
        case round =>
          obtain ⟨j, hj, rfl, hzw, hpx, hbw⟩ := hrel
          have HZW := Lib.hid hzw
          have HBW := Lib.hid hbw
          clear hzw hbw
          clear b0 b1 b2
          have b0 := cell_kept HBW.out HBX.out.c0
          have b1 := cell_kept HBW.out HBX.out.c1
          have b2 := cell_kept HBW.out HBX.out.c2
          by_cases hlj : j < x.ws.length
          · obtain ⟨h, oh, hho, m0, m1, m2⟩ := ((HMS.out.later HBX.out.below).later HBW.out) j hlj
            have HLQ : Hid (0 < j → ∃ p : Msg, getM x.ws (j - 1) = p ∧ wr.cell? ⟨h, oh + (j - 1) * 3 + 1, none⟩ = some (.int .i64 p.n)) := Lib.hid fun hj0 => by
              obtain ⟨h', oh', hho', _, d1, _⟩ := ((HMS.out.later HBX.out.below).later HBW.out) (j - 1) (by omega)
              rw [hho] at hho'
              injection hho' with hho'
              injection hho' with e1 e2
              subst e1
              subst e2
              exact ⟨_, rfl, d1⟩
            subst hho
            have HDM := Lib.hid (dropM hlj)
            obtain ⟨m, hm⟩ : ∃ m, getM x.ws j = m := ⟨_, rfl⟩
            have HPN := Lib.hid (show prevN x.x x.ws (j + 1) = m.n by unfold prevN; rw [if_neg (by omega), Nat.add_sub_cancel, hm])
            rw [hm] at m0 m1 m2 HDM
            clear hm
            have HBADW : Hid (waitsOk x.f (prevN x.x x.ws j) (m :: x.ws.drop (j + 1)) = false → false = V) := Lib.hid fun h => HBAD.out (v := true) (froms_not (.inr (.inr (.inr (.inr (.inr (by rw [HZW.out, HDM.out, h]))))))) 
            have z1 : (0 : Int) ≤ (j : Int) := by omega
            have z2 : (j : Int) < (x.ws.length : Int) := by omega
            go_wp2_with fail
            refine (refMessage_any m _).mono ?_
            rintro e w3 ⟨rfl, hb3⟩
            have HBM := Lib.hid (show Blk w3 wr.heap.size 24 #[.int .i64 m.f, .int .i64 m.n, .int .i64 m.b] from (Blk.new ..).later hb3)
            have HB3 := Lib.hid (below_step (below_alloc (Below.refl wr.heap.size wr) _) hb3)
            have HB4 := Lib.hid (below_step HBW.out HB3.out)
            have HQC : Hid (0 < j → ∃ p : Msg, getM x.ws (j - 1) = p ∧ w3.cell? ⟨h, oh + (j - 1) * 3 + 1, none⟩ = some (.int .i64 p.n)) := Lib.hid fun hj0 => by
              obtain ⟨p, h1, h2⟩ := HLQ.out hj0
              exact ⟨p, h1, cell_kept HB3.out h2⟩
            replace b0 := cell_kept HB3.out b0
            replace b1 := cell_kept HB3.out b1
            replace b2 := cell_kept HB3.out b2
            clear hb3 m0 m1 m2 HLQ
            have m0 : w3.cell? ⟨wr.heap.size, 0, none⟩ = some (.int .i64 m.f) := HBM.out.cell 0
            have m1 : w3.cell? ⟨wr.heap.size, 1, none⟩ = some (.int .i64 m.n) := HBM.out.cell 1
            cases hv : validM m with
            | false =>
              obtain rfl : false = V := HBADW.out (waits_not (.inl hv))
              go_wp2_with fail
              go_quiet (fail)
              go_wp2
              go_ret
              exact ⟨rfl, below_drewN (below_step HB2.out HB4.out) _⟩
            | true =>
              have HVM := Lib.hid hv
              clear hv
              by_cases hf : m.f = x.f
              rotate_left
              · have hfb : (m.f != x.f) = true := by simpa using hf
                obtain rfl : false = V := HBADW.out (waits_not (.inr (.inl hf)))
                go_wp2_with fail
                go_quiet (fail)
                go_wp2
                go_ret
                exact ⟨rfl, below_drewN (below_step HB2.out HB4.out) _⟩
              have HF := Lib.hid hf
              rw [hf] at m0
              clear hf
              by_cases hn : m.n ≤ x.x
              · have hnb : decide (m.n ≤ x.x) = true := by simpa using hn
                obtain rfl : false = V := HBADW.out (waits_not (.inr (.inr (by omega))))
                go_wp2_with fail
                go_quiet (fail)
                go_wp2
                go_ret
                exact ⟨rfl, below_drewN (below_step HB2.out HB4.out) _⟩
              have hnb : decide (m.n ≤ x.x) = false := by simpa using hn
              by_cases hj0 : j = 0
              · have hjb : decide (0 < j) = false := by simp; omega
                have hjp : prevN x.x x.ws j = x.x := by unfold prevN; rw [if_pos hj0]
                have HJP := Lib.hid hjp
                clear hj0 hjp
                have HOK := Lib.hid (show waitsOk x.f x.x x.ws = waitsOk x.f (prevN x.x x.ws (j + 1)) (x.ws.drop (j + 1)) by rw [HPN.out, HZW.out, HDM.out]; exact waits_yes HVM.out HF.out (by rw [HJP.out]; omega))
                go_wp2_with fail
                go_quiet (fail)
                go_wp2
                go_roundw
                case rel => exact ⟨j + 1, by omega, by go_num, HOK.out, by rw [HPN.out]; omega, below_drewN HB4.out _⟩
                case measure => simp [intOf]; omega
              · obtain ⟨p, hp1, hp2⟩ := HQC.out (by omega)
                have hjp : prevN x.x x.ws j = p.n := by unfold prevN; rw [if_neg hj0, hp1]
                have HJP := Lib.hid hjp
                have hjb : decide (0 < j) = true := by simp; omega
                obtain ⟨j1, hj1⟩ : ∃ j1 : Nat, j - 1 = j1 := ⟨_, rfl⟩
                have ej : (j : Int) - 1 = (j1 : Int) := by omega
                rw [hj1] at hp2
                have z3 : (0 : Int) ≤ (j1 : Int) := by omega
                have z4 : (j1 : Int) < (x.ws.length : Int) := by omega
                have eW : IntKind.i64.wrap ((j : Int) - 1) = (j1 : Int) := by rw [ej]; exact IntWalk.i64_in _ (by omega)
                clear hj0 hjp hp1 hj1 HQC
                by_cases hq : m.n ≤ p.n
                · have hqb : decide (m.n ≤ p.n) = true := by simpa using hq
                  obtain rfl : false = V := HBADW.out (waits_not (.inr (.inr (by rw [HJP.out]; omega))))
                  go_wp2_with fail
                  go_quiet (fail)
                  go_wp2
                  go_ret
                  exact ⟨rfl, below_drewN (below_step HB2.out HB4.out) _⟩
                · have hqb : decide (m.n ≤ p.n) = false := by simpa using hq
                  have HOK := Lib.hid (show waitsOk x.f x.x x.ws = waitsOk x.f (prevN x.x x.ws (j + 1)) (x.ws.drop (j + 1)) by rw [HPN.out, HZW.out, HDM.out]; exact waits_yes HVM.out HF.out (by rw [HJP.out]; omega))
                  go_wp2_with fail
                  go_quiet (fail)
                  go_wp2
                  go_roundw
                  case rel => exact ⟨j + 1, by omega, by go_num, HOK.out, by rw [HPN.out]; omega, below_drewN HB4.out _⟩
                  case measure => simp [intOf]; omega
          · obtain rfl : j = x.ws.length := by omega
            have HWT := Lib.hid (show waitsOk x.f x.x x.ws = true by rw [HZW.out, List.drop_length]; rfl)
            have HNX := Lib.hid (show fromsOk (-1) l = fromsOk (prevF l (k + 1)) (l.drop (k + 1)) by rw [HPF.out, HZ.out, HD.out]; exact froms_yes (by omega) (by omega) (by omega) (by omega) HLT.out HWT.out)
            go_wp2
            go_roundw
            case rel => exact ⟨k + 1, by omega, by go_num, HNX.out, below_step HB2.out HBW.out⟩
            case measure => simp [intOf]; omega
    · obtain rfl : k = l.length := by omega
      have HF := Lib.hid (show fromsOk (-1) l = true by rw [HZ.out, List.drop_length]; rfl)
      by_cases h64 : l.length ≤ 64
      · have hd : decide ((l.length : Int) ≤ 64) = true := by simp; omega
        go_wp2_with fail
        refine (refMany_any _ _ l _ (HR.out.later HB.out) (by omega)).mono ?_
        rintro e w1 ⟨rfl, hb1⟩
        have HB1 := Lib.hid (below_step HB.out hb1)
        clear hb1
        have HV2 := Lib.hid (show decide (many l ≤ 64) = V by rw [← HV.out]; unfold validL; rw [decide_eq_true h64, HF.out, Bool.and_true, Bool.true_and])
        obtain ⟨N, hN⟩ : ∃ N, many l = N := ⟨_, rfl⟩
        rw [hN] at HV2 ⊢
        clear hN
        go_wp2
        go_ret
        exact ⟨ret_bool (by rw [← HV2.out, decide_eq_decide]; omega), HB1.out⟩
      · obtain rfl : false = V := by rw [← HV.out]; unfold validL; rw [decide_eq_false h64]; rfl
        have hd : decide ((l.length : Int) ≤ 64) = false := by simp; omega
        go_wp2
        go_ret
        exact ⟨rfl, HB.out⟩
end Go.Proofs.Ytehpdjlidmhkmaa
