/- chargeparklaw36.PlateMetric: it returns true. -/
import Derived.Test.YtnjgmlehcolofaaDoorWe36
namespace Go.Proofs.YtnjgmlehcolofaaDoor
open Go.RowKit

theorem map_toNat_inj : ∀ (x y : List UInt8), x.map UInt8.toNat = y.map UInt8.toNat → x = y
  | [], [], _ => rfl
  | [], _ :: _, h => by simp at h
  | _ :: _, [], h => by simp at h
  | a :: x, b :: y, h => by
    simp only [List.map_cons, List.cons.injEq] at h
    rw [UInt8.toNat_inj.1 h.1, map_toNat_inj x y h.2]

theorem bs_inj {a b : ByteArray} (h : bs a = bs b) : a = b := by
  have : a.data.toList = b.data.toList := map_toNat_inj _ _ h
  cases a; cases b
  simp only [ByteArray.mk.injEq]
  exact Array.toList_inj.1 this

theorem allV3 {a b c : ByteArray} (h : allV [a, b, c] = true) : validS a = true ∧ validS b = true ∧ validS c = true := by
  simpa [allV] using h

theorem Distance_ok (a b : ByteArray) (n : Nat) (w : World) (hT : Tab w) (ha : validS a = true) (hb : validS b = true) (h : E (bs a) (bs b) = n) :
    Calls Tryd.prog 10 #[.string a, .string b] w (Ret (.tuple #[.int .i64 (n : Int), .int .i64 0]) w) := by
  have := Distance_any a b w hT
  rwa [distV_ok (by simp [ha, hb]), h] at this

theorem E_small {a b : ByteArray} (ha : validS a = true) (hb : validS b = true) : E (bs a) (bs b) ≤ 20 := by
  have h1 : a.size ≤ 10 := by simp [validS] at ha; omega
  have h2 : b.size ≤ 10 := by simp [validS] at hb; omega
  have := E_upper (bs a) (bs b)
  rw [bs_length, bs_length] at this
  omega

set_option maxHeartbeats 1000000 in
theorem PlateMetric_walk (a b c : ByteArray) (sa : a.size ≤ 140737488351232) (sb : b.size ≤ 140737488351232) (sc : c.size ≤ 140737488351232) (w : World) (hT : Tab w) :
    Calls Tryd.prog 4 #[.string a, .string b, .string c] w (Ret (.bool true) w) := by
  have HT := Lib.hid hT
  clear hT
  have HZ := Lib.hid (show ∀ s ∈ [a, b, c], s.size ≤ 9223372036854775807 by simp only [List.mem_cons, List.not_mem_nil, or_false]; rintro s (rfl | rfl | rfl) <;> omega)
  by_cases hv : allV [a, b, c] = true
  · obtain ⟨va, vb, vc⟩ := allV3 hv
    have HV := Lib.hid hv
    have HA := Lib.hid va
    have HB := Lib.hid vb
    have HC := Lib.hid vc
    obtain ⟨x, hx⟩ : ∃ x, E (bs a) (bs b) = x := ⟨_, rfl⟩
    obtain ⟨z, hz⟩ : ∃ z, E (bs a) (bs c) = z := ⟨_, rfl⟩
    obtain ⟨u, hu⟩ : ∃ u, E (bs c) (bs b) = u := ⟨_, rfl⟩
    have bx : x ≤ 20 := by rw [← hx]; exact E_small va vb
    have bz : z ≤ 20 := by rw [← hz]; exact E_small va vc
    have bu : u ≤ 20 := by rw [← hu]; exact E_small vc vb
    have tri : x ≤ z + u := by rw [← hx, ← hz, ← hu]; exact E_tri _ _ _
    have HX := Lib.hid hx
    have HZ' := Lib.hid hz
    have HU := Lib.hid hu
    have HY := Lib.hid (show E (bs b) (bs a) = x by rw [E_symm]; exact hx)
    have hq : (((x : Int) == 0) == (a.toList == b.toList)) = true := by
      by_cases e : a = b
      · subst e
        have : x = 0 := by rw [← hx]; exact E_self _
        simp [this]
      · have h1 : x ≠ 0 := fun h0 => e (bs_inj (E_zero _ _ (by rw [hx]; exact h0)))
        have h2 : (a.toList == b.toList) = false := by
          refine beq_eq_false_iff_ne.2 (fun h => e (bs_inj ?_))
          rw [ByteArray.toList_eq, ByteArray.toList_eq] at h
          rw [bs, bs, h]
        have h3 : ((x : Int) == 0) = false := by simp; omega
        rw [h2, h3]; rfl
    clear hv va vb vc hx hz hu
    go_enter Tryd.func4, Tryd.ntmps4
    go_wp2_with fail
    refine (head_any w HT.out).mono ?_
    rintro e w1 ⟨rfl, hb⟩
    have HB1 := Lib.hid hb
    clear hb
    go_wp2_with fail
    refine (plates_any [a, b, c] w1.heap.size _ (Blk.new w1 _ _) (by simp) HZ.out).mono ?_
    rintro e w2 ⟨rfl, hb⟩
    rw [HV.out]
    have HB2 := Lib.hid (below_step (below_alloc HB1.out _) hb)
    clear hb HB1
    go_wp2_with fail
    refine (Distance_ok a b x w2 (HT.out.below HB2.out) HA.out HB.out HX.out).mono ?_
    rintro e w3 ⟨rfl, hb⟩
    have HB3 := Lib.hid (below_step HB2.out hb)
    clear hb HB2
    go_wp2_with fail
    refine (Distance_ok b a x w3 (HT.out.below HB3.out) HB.out HA.out HY.out).mono ?_
    rintro e w4 ⟨rfl, hb⟩
    have HB4 := Lib.hid (below_step HB3.out hb)
    clear hb HB3
    go_wp2_with fail
    refine (Distance_ok a c z w4 (HT.out.below HB4.out) HA.out HC.out HZ'.out).mono ?_
    rintro e w5 ⟨rfl, hb⟩
    have HB5 := Lib.hid (below_step HB4.out hb)
    clear hb HB4
    go_wp2_with fail
    refine (Distance_ok c b u w5 (HT.out.below HB5.out) HC.out HB.out HU.out).mono ?_
    rintro e w6 ⟨rfl, hb⟩
    have HB6 := Lib.hid (below_step HB5.out hb)
    clear hb HB5
    go_wp2
    go_ret
    exact ⟨ret_bool (by simp; omega), HB6.out⟩
  · have HV := Lib.hid (show allV [a, b, c] = false by simpa using hv)
    clear hv
    go_enter Tryd.func4, Tryd.ntmps4
    go_wp2_with fail
    refine (head_any w HT.out).mono ?_
    rintro e w1 ⟨rfl, hb⟩
    have HB1 := Lib.hid hb
    clear hb
    go_wp2_with fail
    refine (plates_any [a, b, c] w1.heap.size _ (Blk.new w1 _ _) (by simp) HZ.out).mono ?_
    rintro e w2 ⟨rfl, hb⟩
    rw [HV.out]
    have HB2 := Lib.hid (below_step (below_alloc HB1.out _) hb)
    clear hb HB1
    go_wp2
    go_ret
    exact ⟨rfl, HB2.out⟩

end Go.Proofs.YtnjgmlehcolofaaDoor
