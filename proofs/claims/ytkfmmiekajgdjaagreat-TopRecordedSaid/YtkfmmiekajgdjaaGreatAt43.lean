/- The last reading at a minute. -/
import Derived.Test.YtkfmmiekajgdjaaGreatRp43
import Derived.Deep.Cut
namespace Go.Proofs.YtkfmmiekajgdjaaGreat
open Go.RowKit
attribute [local go_sem] Oper.semAt_some

set_option maxRecDepth 100000 in
set_option maxHeartbeats 4000000 in
theorem At_any (o : Option Addr) (cap : Nat) (l : List Rd) (m : Int) (w : World) (hr : Rds w o l) (hl : l.length ≤ 1000) : Calls Tryz.prog 14 #[.slice o l.length cap, .int .i64 m] w (Ret (.int .i64 (atN l m l.length : Nat)) w) := by
  have HR := Lib.hid hr
  clear hr
  go_enter Tryz.func14, Tryz.ntmps14
  go_wp2
  go_loop [5, 6] (fun a i => ∃ k : Nat, k ≤ l.length ∧ i = .int .i64 k ∧ a = .int .i64 (atN l m k : Nat)) (fun _ i => l.length - (intOf i).toNat)
  case atStart => exact ⟨0, Nat.zero_le _, rfl, rfl⟩
  case round =>
    obtain ⟨k, hk, rfl, rfl⟩ := hrel
    by_cases hlt : k < l.length
    · obtain ⟨g, off, ho, c0, c1, c2, c3, c4⟩ := HR.out k hlt
      have HAT := Lib.hid (show atN l m (k + 1) = if (getR l k).m ≤ m then k + 1 else atN l m k from rfl)
      have hal := atN_le l m k
      rw [ho]
      obtain ⟨x, hx⟩ : ∃ x, getR l k = x := ⟨_, rfl⟩
      rw [hx] at c2 HAT
      clear hx c0 c1 c3 c4
      obtain ⟨A, hA⟩ : ∃ A, atN l m k = A := ⟨_, rfl⟩
      rw [hA] at HAT hal ⊢
      clear hA ho
      have y1 : (0 : Int) ≤ (k : Int) := by omega
      have y2 : (k : Int) < (l.length : Int) := by omega
      by_cases hm : x.m ≤ m
      · have d1 : decide (x.m ≤ m) = true := decide_eq_true hm
        replace HAT := Lib.hid (show atN l m (k + 1) = k + 1 by rw [HAT.out, if_pos hm])
        clear hm
        go_wp2
        go_round
        case rel => exact ⟨k + 1, hlt, by go_num, by rw [HAT.out]; go_num⟩
        case measure => simp [intOf]; omega
      · have d1 : decide (x.m ≤ m) = false := decide_eq_false hm
        replace HAT := Lib.hid (show atN l m (k + 1) = A by rw [HAT.out, if_neg hm])
        clear hm
        go_wp2
        go_round
        case rel => exact ⟨k + 1, hlt, by go_num, by rw [HAT.out]⟩
        case measure => simp [intOf]; omega
    · obtain rfl : k = l.length := by omega
      go_wp2
      go_ret
      exact Ret.same
end Go.Proofs.YtkfmmiekajgdjaaGreat
