/- Chapter 40: ChainSeed. -/
import Derived.Test.YtckbooccgdddbaaWk40
import Derived.Test.YtckbooccgdddbaaPlainB40
namespace Go.Proofs.Ytckbooccgdddbaa
open Go.RowKit
attribute [local go_sem] Oper.semAt_some

set_option maxRecDepth 100000 in
set_option maxHeartbeats 4000000 in
theorem chainSeed_any (seed other : Nat) (o : Option Addr) (cap : Nat) (l : List Rd) (w : World) (hs : seed < 18446744073709551616) (ho : other < 18446744073709551616) (hr : Rds w o l) (hl : l.length ≤ 9223372036854775807) :
    Calls Try.prog 6 #[.int .u64 (seed : Nat), .int .u64 (other : Nat), .slice o l.length cap] w (Ret (.bool true) w) := by
  have HR := Lib.hid hr
  clear hr
  go_enter Try.func6, Try.ntmps6
  go_wp2_with fail
  refine (head_any w).mono ?_
  rintro e w1 ⟨rfl, hb1⟩
  have HB1 := Lib.hid hb1
  clear hb1
  go_wp2_with fail
  · go_ret
    exact ⟨rfl, HB1.out⟩
  · go_ret
    exact ⟨rfl, HB1.out⟩
  · go_ret
    exact ⟨rfl, HB1.out⟩
  refine (Check_any seed o cap l w1 hs (HR.out.later HB1.out) hl).mono ?_
  rintro e w2 ⟨rfl, hb2⟩
  have HB2 := Lib.hid (below_step HB1.out hb2)
  clear hb2
  by_cases hc : chk seed l = -1
  · have HC := Lib.hid (chk_seed hs ho hc (by rcases Nat.eq_zero_or_pos l.length with h | h; simp_all; exact h) (by intro h; simp_all))
    rw [hc]
    go_wp2_with fail
    refine (Check_any other o cap l w2 ho (HR.out.later HB2.out) hl).mono ?_
    rintro e w3 ⟨rfl, hb3⟩
    rw [HC.out]
    have HB3 := Lib.hid (below_step HB2.out hb3)
    clear hb3
    go_wp2
    go_ret
    exact ⟨rfl, HB3.out⟩
  · have hcb : (chk seed l == -1) = false := by simpa using hc
    go_wp2
    go_ret
    exact ⟨rfl, HB2.out⟩
end Go.Proofs.Ytckbooccgdddbaa
