/- chargeparklaw36.PlateMatchesReference: it returns true. -/
import Derived.Test.YtnjgmlehcolofaaDoorWd36
namespace Go.Proofs.YtnjgmlehcolofaaDoor
open Go.RowKit

theorem distV_form (a b : ByteArray) : ∃ n e : Int, distV a b = .tuple #[.int .i64 n, .int .i64 e] := by
  unfold distV
  split <;> exact ⟨_, _, rfl⟩

set_option maxHeartbeats 1000000 in
theorem PlateMatchesReference_walk (a b : ByteArray) (sa : a.size ≤ 140737488351232) (sb : b.size ≤ 140737488351232) (w : World) (hT : Tab w) :
    Calls Tryd.prog 3 #[.string a, .string b] w (Ret (.bool true) w) := by
  have HT := Lib.hid hT
  clear hT
  have za : a.size ≤ 9223372036854775807 := by omega
  have zb : b.size ≤ 9223372036854775807 := by omega
  by_cases h1 : 30 < (a.size : Int)
  · go_enter Tryd.func3, Tryd.ntmps3
    go_wp2_with fail
    refine (head_any w HT.out).mono ?_
    rintro e w1 ⟨rfl, hb⟩
    go_wp2
    go_ret
    exact ⟨rfl, hb⟩
  · by_cases h2 : 30 < (b.size : Int)
    · have h1' : decide ((30 : Int) < (a.size : Int)) = false := by simp; omega
      go_enter Tryd.func3, Tryd.ntmps3
      go_wp2_with fail
      refine (head_any w HT.out).mono ?_
      rintro e w1 ⟨rfl, hb⟩
      go_wp2
      go_ret
      exact ⟨rfl, hb⟩
    · have h1' : decide ((30 : Int) < (a.size : Int)) = false := by simp; omega
      have h2' : decide ((30 : Int) < (b.size : Int)) = false := by simp; omega
      obtain ⟨n, er, hd⟩ := distV_form a b
      have HD := Lib.hid hd
      obtain ⟨v, hv⟩ : ∃ v, validS a = v := ⟨_, rfl⟩
      have HV := Lib.hid hv
      clear hd hv
      go_enter Tryd.func3, Tryd.ntmps3
      go_wp2_with fail
      refine (head_any w HT.out).mono ?_
      rintro e w1 ⟨rfl, hb⟩
      have HB1 := Lib.hid hb
      clear hb
      go_wp2_with fail
      refine (Distance_any a b w1 (HT.out.below HB1.out)).mono ?_
      rintro e w2 ⟨rfl, hb⟩
      rw [HD.out]
      have HB2 := Lib.hid (below_step HB1.out hb)
      clear hb HB1
      go_wp2_with fail
      refine (RDistance_any a b w2 za zb).mono ?_
      rintro e w3 ⟨rfl, hb⟩
      rw [HD.out]
      have HB3 := Lib.hid (below_step HB2.out hb)
      clear hb HB2
      go_wp2_with fail
      refine (Valid_any a w3).mono ?_
      rintro e w4 ⟨rfl, hb⟩
      rw [HV.out]
      have HB4 := Lib.hid (below_step HB3.out hb)
      clear hb HB3
      go_wp2_with fail
      refine (RValid_any a w4 za).mono ?_
      rintro e w5 ⟨rfl, hb⟩
      rw [HV.out]
      have HB5 := Lib.hid (below_step HB4.out hb)
      clear hb HB4
      go_wp2
      all_goals go_ret
      all_goals exact ⟨ret_bool (by first | rfl | (simp; done)), HB5.out⟩

end Go.Proofs.YtnjgmlehcolofaaDoor
