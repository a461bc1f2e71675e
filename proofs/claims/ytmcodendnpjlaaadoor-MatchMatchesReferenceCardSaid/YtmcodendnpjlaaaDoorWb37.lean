/- Chapter 37: distance. -/
import Derived.Test.YtmcodendnpjlaaaDoorWa37
namespace Go.Proofs.YtmcodendnpjlaaaDoor
open Go.RowKit
attribute [local go_sem] Oper.semAt_some

@[reducible] def psV (p : Ps) : Value := .agg #[.string p.s, .int .i64 p.mn]
/-- The distance of two passes. -/
def dP (p q : Ps) : Int := if validS p.s && validS q.s then ((E (bs p.s) (bs q.s) : Nat) : Int) else 0
theorem dP_pos (p q : Ps) : 0 ≤ dP p q := by
  unfold dP
  split <;> omega

set_option maxRecDepth 100000 in
set_option maxHeartbeats 8000000 in
theorem distance_any (p q : Ps) (w : World) (hT : Tab w) : Calls Tryd.prog 27 #[psV p, psV q] w (Ret (.int .i64 (dP p q)) w) := by
  have HT := Lib.hid hT
  clear hT
  obtain ⟨D, hD⟩ : ∃ D, dP p q = D := ⟨_, rfl⟩
  rw [hD]
  have HD := Lib.hid hD
  clear hD
  go_enter Tryd.func27, Tryd.ntmps27
  have HB1 := Lib.hid (boxP w 35 (.string p.s) (.int .i64 p.mn))
  have HB2 := Lib.hid (boxP (w.alloc (.cells #[.string p.s, .int .i64 p.mn] 35)) 35 (.string q.s) (.int .i64 q.mn))
  have HW := Lib.hid (below_step HB1.out.1 HB2.out.1)
  go_wp2_with fail
  refine (Distance_any p.s q.s _ (HT.out.below HW.out)).mono ?_
  rintro e x ⟨rfl, hb⟩
  have HX := Lib.hid (below_step HW.out hb)
  clear hb HB1 HB2 HW
  unfold distV
  obtain ⟨V, hV⟩ : ∃ V, (validS p.s && validS q.s) = V := ⟨_, rfl⟩
  rw [hV]
  have HE := Lib.hid (show (if V then ((E (bs p.s) (bs q.s) : Nat) : Int) else 0) = D by rw [← hV]; exact HD.out)
  clear hV
  cases V with
  | true =>
    obtain rfl : ((E (bs p.s) (bs q.s) : Nat) : Int) = D := HE.out
    go_wp2
    go_ret
    exact ⟨rfl, HX.out⟩
  | false =>
    obtain rfl : (0 : Int) = D := HE.out
    go_wp2
    go_ret
    exact ⟨rfl, HX.out⟩
end Go.Proofs.YtmcodendnpjlaaaDoor
