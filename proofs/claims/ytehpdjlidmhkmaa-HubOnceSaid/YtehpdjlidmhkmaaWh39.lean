/- Chapter 39: with, put of the reference. -/
import Derived.Test.YtehpdjlidmhkmaaMem39
namespace Go.Proofs.Ytehpdjlidmhkmaa
open Go.RowKit
attribute [local go_sem] Oper.semAt_some

def withS (l : List Msg) (m : Msg) (done : Bool) : List Msg := if done then l else insM l m
def OutM (l : List Msg) (w : World) (e : Ending) (w' : World) : Prop :=
  Below w.heap.size w w' ∧ ∃ (o : Option Addr) (cap : Nat), e = .returned (.slice o l.length cap) ∧ Msgs w' o l ∧ l.length ≤ cap
theorem withS_ins {x m : Msg} {xs : List Msg} (h : m.n < x.n) : insM (x :: xs) m = [m] ++ [x] ++ withS xs m true := by rw [insM, if_pos h]; rfl
theorem withS_skip {x m : Msg} {xs : List Msg} (h : ¬ m.n < x.n) : insM (x :: xs) m = [x] ++ withS xs m false := by rw [insM, if_neg h]; rfl

set_option maxHeartbeats 8000000 in
theorem with_any (o : Option Addr) (cap : Nat) (l : List Msg) (m : Msg) (w : World) (hr : Msgs w o l) (hl : l.length ≤ 1000) : Calls Try.prog 35 #[.slice o l.length cap, msgV m] w (OutM (insM l m) w) := by
  have HR := Lib.hid hr
  clear hr
  go_enter Try.func35, Try.ntmps35
  go_wp2
  have HG0 := Lib.hid (Grow.new w 24 3 24 #[.int .i64 m.f, .int .i64 m.n, .int .i64 m.b])
  go_loopw [5, 6, 7] (fun v d i wr => ∃ (k n : Nat) (done : Bool) (out : List Msg), k ≤ l.length ∧ n ≤ k + 1 ∧ (done = false → n ≤ k) ∧ out.length = n ∧ i = .int .i64 k ∧ d = .bool done ∧ out ++ withS (l.drop k) m done = insM l m ∧ Grow w wr 24 3 24 #[.int .i64 m.f, .int .i64 m.n, .int .i64 m.b] v n (flatM out)) (fun _ _ i _ => l.length - (intOf i).toNat)
  case atStart => exact ⟨0, 0, false, [], Nat.zero_le _, by omega, fun _ => Nat.le_refl _, rfl, rfl, rfl, rfl, HG0.out⟩
  case round =>
    obtain ⟨k, n, done, out, hk, hn, hnd, hol, rfl, rfl, hz, hg⟩ := hrel
    have HND := Lib.hid hnd
    clear hnd
    have HZ := Lib.hid hz
    have HG := Lib.hid hg
    have HOL := Lib.hid hol
    clear hz hg hol HG0
    have m0 : wr.cell? ⟨w.heap.size, 0, none⟩ = some (.int .i64 m.f) := HG.out.blk.cell 0
    have m1 : wr.cell? ⟨w.heap.size, 1, none⟩ = some (.int .i64 m.n) := HG.out.blk.cell 1
    have m2 : wr.cell? ⟨w.heap.size, 2, none⟩ = some (.int .i64 m.b) := HG.out.blk.cell 2
    by_cases hlt : k < l.length
    · obtain ⟨g, off, hgo, c0, c1, c2⟩ := (HR.out.later HG.out.below) k hlt
      subst hgo
      have HD := Lib.hid (dropM hlt)
      obtain ⟨x, hx⟩ : ∃ x, getM l k = x := ⟨_, rfl⟩
      rw [hx] at c0 c1 c2 HD
      clear hx
      have y1 : (0 : Int) ≤ (k : Int) := by omega
      have y2 : (k : Int) < (l.length : Int) := by omega
      have HN := Lib.hid (show n + 1 ≤ 1000000000 by omega)
      have HN2 := Lib.hid (show n + 1 + 1 ≤ 1000000000 by omega)
      cases done with
      | true =>
        have HZ2 := Lib.hid (show (out ++ [x]) ++ withS (l.drop (k + 1)) m true = insM l m by rw [← HZ.out, HD.out, List.append_assoc]; rfl)
        go_wp2_with fail
        go_quiet (fail)
        go_wp2_with (at_builtin; refine wp_append1G (news := msgC x) elemM (HG.out.later (below_drewN (Below.refl _ _) _)) HN.out (by decide) rfl (msgC_one x) rfl _ _ rfl rfl rfl rfl ?_)
        clear c0 c1 c2 m0 m1 m2
        intro v2 w4 hg2
        have HG2 := Lib.hid hg2
        clear hg2
        go_wp2
        go_roundw
        case rel => exact ⟨k + 1, n + 1, true, out ++ [x], by omega, by omega, fun h => (by cases h), by rw [List.length_append, HOL.out]; rfl, by go_num, rfl, HZ2.out, by rw [flatM_append, flatM_one]; exact HG2.out⟩
        case measure => simp [intOf]; omega
      | false =>
        by_cases hx : m.n < x.n
        · have HZ2 := Lib.hid (show (out ++ [m] ++ [x]) ++ withS (l.drop (k + 1)) m true = insM l m by rw [← HZ.out, HD.out]; show _ = out ++ insM _ _; rw [withS_ins hx]; simp only [List.append_assoc])
          go_wp2_with fail
          go_quiet (fail)
          go_wp2_with (at_builtin; refine wp_append1G (news := msgC m) elemM (HG.out.later (below_drewN (Below.refl _ _) _)) HN.out (by decide) rfl (msgC_one m) rfl _ _ rfl rfl rfl rfl ?_)
          clear c0 c1 c2 m0 m1 m2
          intro v2 w4 hg2
          have HG2 := Lib.hid hg2
          clear hg2
          obtain ⟨g', off', hgo', c0, c1, c2⟩ := (HR.out.later HG2.out.below) k hlt
          injection hgo' with hgo'
          injection hgo' with e1 e2
          subst e1
          subst e2
          obtain ⟨x', hx'⟩ : ∃ x, getM l k = x := ⟨_, rfl⟩
          rw [hx'] at c0 c1 c2
          obtain rfl : x' = x := by rw [← hx']; have := HD.out; rw [dropM hlt] at this; injection this
          clear hx'
          go_wp2_with (at_builtin; refine wp_append1G (news := msgC x') elemM HG2.out HN2.out (by decide) rfl (msgC_one x') rfl _ _ rfl rfl rfl rfl ?_)
          clear c0 c1 c2
          intro v3 w5 hg3
          have HG3 := Lib.hid hg3
          clear hg3
          go_wp2
          go_roundw
          case rel => exact ⟨k + 1, n + 1 + 1, true, out ++ [m] ++ [x'], by omega, by have := HND.out (by first | trivial | rfl); omega, fun h => (by cases h), by rw [List.length_append, List.length_append, HOL.out]; rfl, by go_num, rfl, HZ2.out, by rw [flatM_append, flatM_append, flatM_one, flatM_one]; exact HG3.out.cast rfl rfl (by simp [msgC])⟩
          case measure => simp [intOf]; omega
        · have HZ2 := Lib.hid (show (out ++ [x]) ++ withS (l.drop (k + 1)) m false = insM l m by rw [← HZ.out, HD.out]; show _ = out ++ insM _ _; rw [withS_skip hx]; simp only [List.append_assoc])
          have hxb : decide (m.n < x.n) = false := by simpa using hx
          clear hx
          go_wp2_with fail
          go_quiet (fail)
          go_wp2_with (at_builtin; refine wp_append1G (news := msgC x) elemM (HG.out.later (below_drewN (Below.refl _ _) _)) HN.out (by decide) rfl (msgC_one x) rfl _ _ rfl rfl rfl rfl ?_)
          clear c0 c1 c2 m0 m1 m2
          intro v2 w4 hg2
          have HG2 := Lib.hid hg2
          clear hg2
          go_wp2
          go_roundw
          case rel => exact ⟨k + 1, n + 1, false, out ++ [x], by omega, by omega, fun _ => (by have := HND.out (by first | trivial | rfl); omega), by rw [List.length_append, HOL.out]; rfl, by go_num, rfl, HZ2.out, by rw [flatM_append, flatM_one]; exact HG2.out⟩
          case measure => simp [intOf]; omega
    · obtain rfl : k = l.length := by omega
      cases done with
      | true =>
        have HZ2 := Lib.hid (show insM l m = out by rw [← HZ.out, List.drop_length]; simp [withS])
        go_wp2
        have HRW := Lib.hid HG.out.row
        obtain ⟨oo, cp, rfl, hcp⟩ := HRW.out.shape
        go_ret
        refine ⟨HG.out.below, oo, cp, ?_, ?_, ?_⟩
        · rw [HZ2.out, HOL.out]; rfl
        · rw [HZ2.out]; exact HRW.out.msgs
        · rw [HZ2.out, HOL.out]; exact hcp
      | false =>
        have HZ2 := Lib.hid (show insM l m = out ++ [m] by rw [← HZ.out, List.drop_length]; rfl)
        have HN := Lib.hid (show n + 1 ≤ 1000000000 by omega)
        go_wp2_with (at_builtin; refine wp_append1G (news := msgC m) elemM HG.out HN.out (by decide) rfl (msgC_one m) rfl _ _ rfl rfl rfl rfl ?_)
        intro v2 w4 hg2
        have HRW := Lib.hid hg2.row
        obtain ⟨oo, cp, rfl, hcp⟩ := HRW.out.shape
        clear hg2
        go_wp2
        go_ret
        refine ⟨HRW.out.below, oo, cp, ?_, ?_, ?_⟩
        · rw [HZ2.out, List.length_append, HOL.out]; rfl
        · rw [HZ2.out]; have := HRW.out; rw [← flatM_one, ← flatM_append] at this; exact this.msgs
        · rw [HZ2.out, List.length_append, HOL.out]; exact hcp
end Go.Proofs.Ytehpdjlidmhkmaa
