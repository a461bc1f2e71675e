/- chargeparklaw36.PlateParts: it returns true. -/
import Derived.Test.YtnjgmlehcolofaaDoorWf36
namespace Go.Proofs.YtnjgmlehcolofaaDoor
open Go.RowKit

theorem bs_append (a b : ByteArray) : bs (a ++ b) = bs a ++ bs b := by simp [bs]

set_option maxRecDepth 100000 in
set_option maxHeartbeats 2000000 in
theorem PlateParts_walk (a b c d : ByteArray) (sa : a.size ≤ 140737488351232) (sb : b.size ≤ 140737488351232) (sc : c.size ≤ 140737488351232) (sd : d.size ≤ 140737488351232) (w : World) (hT : Tab w) :
    Calls Tryd.prog 7 #[.string a, .string b, .string c, .string d] w (Ret (.bool true) w) := by
  have HT := Lib.hid hT
  clear hT
  have HZ := Lib.hid (show ∀ s ∈ [a, b, c, d, a ++ c, b ++ d, a ++ b, a ++ d, c ++ b], s.size ≤ 9223372036854775807 by
    simp only [List.mem_cons, List.not_mem_nil, or_false]
    rintro s (rfl | rfl | rfl | rfl | rfl | rfl | rfl | rfl | rfl) <;> (try rw [ByteArray.size_append]) <;> omega)
  have n1 : ¬ (9223372036854775807 < a.size + c.size) := by omega
  have n2 : ¬ (9223372036854775807 < b.size + d.size) := by omega
  have n3 : ¬ (9223372036854775807 < a.size + b.size) := by omega
  have n4 : ¬ (9223372036854775807 < a.size + d.size) := by omega
  have n5 : ¬ (9223372036854775807 < c.size + b.size) := by omega
  by_cases hv : allV [a, b, c, d, a ++ c, b ++ d, a ++ b, a ++ d, c ++ b] = true
  · have HV := Lib.hid hv
    have hv' : validS a = true ∧ validS b = true ∧ validS c = true ∧ validS d = true ∧ validS (a ++ c) = true ∧ validS (b ++ d) = true ∧ validS (a ++ b) = true ∧ validS (a ++ d) = true ∧ validS (c ++ b) = true := by
      simpa [allV, and_assoc] using hv
    clear hv
    obtain ⟨va, vb, vc, vd, vac, vbd, vab, vad, vcb⟩ := hv'
    have VA := Lib.hid va; have VB := Lib.hid vb; have VC := Lib.hid vc; have VD := Lib.hid vd
    have VAC := Lib.hid vac; have VBD := Lib.hid vbd; have VAB := Lib.hid vab; have VAD := Lib.hid vad; have VCB := Lib.hid vcb
    obtain ⟨x, hx⟩ : ∃ x, E (bs (a ++ c)) (bs (b ++ d)) = x := ⟨_, rfl⟩
    obtain ⟨y, hy⟩ : ∃ y, E (bs a) (bs b) = y := ⟨_, rfl⟩
    obtain ⟨z, hz⟩ : ∃ z, E (bs c) (bs d) = z := ⟨_, rfl⟩
    obtain ⟨v, hvv⟩ : ∃ v, E (bs b) (bs d) = v := ⟨_, rfl⟩
    obtain ⟨t, ht⟩ : ∃ t, E (bs a) (bs c) = t := ⟨_, rfl⟩
    have HU := Lib.hid (show E (bs (a ++ b)) (bs (a ++ d)) = v by rw [bs_append, bs_append, E_front]; exact hvv)
    have HS := Lib.hid (show E (bs (a ++ b)) (bs (c ++ b)) = t by rw [bs_append, bs_append, E_back]; exact ht)
    have by' : y ≤ 20 := by rw [← hy]; exact E_small va vb
    have bz : z ≤ 20 := by rw [← hz]; exact E_small vc vd
    have tri : x ≤ y + z := by rw [← hx, ← hy, ← hz, bs_append, bs_append]; exact E_append _ _ _ _
    have tri' : (x : Int) ≤ (y : Int) + (z : Int) := by omega
    have HX := Lib.hid hx; have HY := Lib.hid hy; have HZ' := Lib.hid hz; have HVV := Lib.hid hvv; have HTT := Lib.hid ht
    clear va vb vc vd vac vbd vab vad vcb hx hy hz hvv ht
    go_enter Tryd.func7, Tryd.ntmps7
    go_wp2_with fail
    refine (head_any w HT.out).mono ?_
    rintro e w1 ⟨rfl, hb⟩
    have HB1 := Lib.hid hb
    clear hb
    go_wp2_with fail
    refine (plates_any [a, b, c, d, a ++ c, b ++ d, a ++ b, a ++ d, c ++ b] w1.heap.size _ (Blk.new w1 _ _) (by simp) HZ.out).mono ?_
    rintro e w2 ⟨rfl, hb⟩
    rw [HV.out]
    have HB2 := Lib.hid (below_step (below_alloc HB1.out _) hb)
    clear hb HB1
    go_wp2_with fail
    refine (Distance_ok (a ++ c) (b ++ d) x w2 (HT.out.below HB2.out) VAC.out VBD.out HX.out).mono ?_
    rintro e w3 ⟨rfl, hb⟩
    have HB3 := Lib.hid (below_step HB2.out hb)
    clear hb HB2
    go_wp2_with fail
    refine (Distance_ok a b y w3 (HT.out.below HB3.out) VA.out VB.out HY.out).mono ?_
    rintro e w4 ⟨rfl, hb⟩
    have HB4 := Lib.hid (below_step HB3.out hb)
    clear hb HB3
    go_wp2_with fail
    refine (Distance_ok c d z w4 (HT.out.below HB4.out) VC.out VD.out HZ'.out).mono ?_
    rintro e w5 ⟨rfl, hb⟩
    have HB5 := Lib.hid (below_step HB4.out hb)
    clear hb HB4
    go_wp2_with fail
    refine (Distance_ok (a ++ b) (a ++ d) v w5 (HT.out.below HB5.out) VAB.out VAD.out HU.out).mono ?_
    rintro e w6 ⟨rfl, hb⟩
    have HB6 := Lib.hid (below_step HB5.out hb)
    clear hb HB5
    go_wp2_with fail
    refine (Distance_ok b d v w6 (HT.out.below HB6.out) VB.out VD.out HVV.out).mono ?_
    rintro e w7 ⟨rfl, hb⟩
    have HB7 := Lib.hid (below_step HB6.out hb)
    clear hb HB6
    go_wp2_with fail
    refine (Distance_ok (a ++ b) (c ++ b) t w7 (HT.out.below HB7.out) VAB.out VCB.out HS.out).mono ?_
    rintro e w8 ⟨rfl, hb⟩
    have HB8 := Lib.hid (below_step HB7.out hb)
    clear hb HB7
    go_wp2_with fail
    refine (Distance_ok a c t w8 (HT.out.below HB8.out) VA.out VC.out HTT.out).mono ?_
    rintro e w9 ⟨rfl, hb⟩
    have HB9 := Lib.hid (below_step HB8.out hb)
    clear hb HB8
    go_wp2
    go_ret
    exact ⟨ret_bool (by first | rfl | (simp; done) | (simp; omega)), HB9.out⟩
  · have HV := Lib.hid (show allV [a, b, c, d, a ++ c, b ++ d, a ++ b, a ++ d, c ++ b] = false by simpa using hv)
    clear hv
    go_enter Tryd.func7, Tryd.ntmps7
    go_wp2_with fail
    refine (head_any w HT.out).mono ?_
    rintro e w1 ⟨rfl, hb⟩
    have HB1 := Lib.hid hb
    clear hb
    go_wp2_with fail
    refine (plates_any [a, b, c, d, a ++ c, b ++ d, a ++ b, a ++ d, c ++ b] w1.heap.size _ (Blk.new w1 _ _) (by simp) HZ.out).mono ?_
    rintro e w2 ⟨rfl, hb⟩
    rw [HV.out]
    have HB2 := Lib.hid (below_step (below_alloc HB1.out _) hb)
    clear hb HB1
    go_wp2
    go_ret
    exact ⟨rfl, HB2.out⟩

end Go.Proofs.YtnjgmlehcolofaaDoor
