/- chargeparklaw36.PlateEdits: it returns true. -/
import Derived.Test.YtnjgmlehcolofaaDoorWj36
import Derived.Test.YtnjgmlehcolofaaDoorWg36
namespace Go.Proofs.YtnjgmlehcolofaaDoor
open Go.RowKit

theorem bs_extract (s : ByteArray) (i j : Nat) : bs (s.extract i j) = ((bs s).take j).drop i := by
  simp [bs, List.map_take, List.map_drop, List.drop_take]
theorem bs_oneS (c : Nat) (h : c < 256) : bs (oneS c) = [c] := bs_ofNums [c] (by simpa using h)

theorem split_at (l : List Nat) (k : Nat) (h : k < l.length) : l = l.take k ++ l[k] :: l.drop (k + 1) := by
  rw [← List.drop_eq_getElem_cons h, List.take_append_drop]

theorem ed_del (l : List Nat) (k : Nat) (h : k < l.length) : E l (l.take k ++ l.drop (k + 1)) ≤ 2 := by
  conv => lhs; arg 1; rw [split_at l k h]
  rw [E_front]
  have := E_del l[k] (l.drop (k + 1)) (l.drop (k + 1))
  rw [E_self] at this
  omega
theorem ed_ins (l : List Nat) (k c : Nat) : E l (l.take k ++ c :: l.drop k) ≤ 2 := by
  conv => lhs; arg 1; rw [← List.take_append_drop k l]
  rw [E_front]
  have := E_ins c (l.drop k) (l.drop k)
  rw [E_self] at this
  omega
theorem ed_rep (l : List Nat) (k c : Nat) (h : k < l.length) : E l (l.take k ++ c :: l.drop (k + 1)) ≤ rc l[k] c := by
  conv => lhs; arg 1; rw [split_at l k h]
  rw [E_front]
  have := E_sub l[k] c (l.drop (k + 1)) (l.drop (k + 1))
  rw [E_self] at this
  omega

set_option maxHeartbeats 2000000 in
/-- The law, from what 'edited' returns. -/
theorem PlateEdits_from (a b : ByteArray) (at' kind : Nat) (c : Int) (sa : a.size ≤ 140737488351232) (sb : b.size ≤ 140737488351232) (va : validS a = true) (vb : validS b = true) (ha : at' ≤ 9223372036854775807) (hk : kind ≤ 9223372036854775807)
    (r : ByteArray) (cost : Nat) (sr : r.size ≤ 140737488351232) (hc : cost ≤ 2) (hE : validS r = true → E (bs a) (bs r) ≤ cost)
    (hed : ∀ W : World, Calls Tryd.prog 15 #[.string a, .int .i64 (at' : Int), .int .i64 (kind : Int), .int .u8 c] W (Ret (.tuple #[.string r, .int .i64 (cost : Int)]) W)) (w : World) (hT : Tab w) :
    Calls Tryd.prog 5 #[.string a, .string b, .int .i64 (at' : Int), .int .i64 (kind : Int), .int .u8 c] w (Ret (.bool true) w) := by
  have HT := Lib.hid hT
  clear hT
  have HED := Lib.hid hed
  clear hed
  have HZ := Lib.hid (show ∀ s ∈ [a, b], s.size ≤ 9223372036854775807 by simp only [List.mem_cons, List.not_mem_nil, or_false]; rintro s (rfl | rfl) <;> omega)
  have HZ1 := Lib.hid (show ∀ s ∈ [r], s.size ≤ 9223372036854775807 by simp only [List.mem_cons, List.not_mem_nil, or_false]; rintro s rfl; omega)
  have HV := Lib.hid (show allV [a, b] = true by simp [allV, va, vb])
  have n1 : ¬ (at' : Int) < 0 := by omega
  have n2 : ¬ (kind : Int) < 0 := by omega
  by_cases hr : validS r = true
  · have HR := Lib.hid (show allV [r] = true by simp [allV, hr])
    have HA := Lib.hid va
    have HB := Lib.hid vb
    have HC := Lib.hid hr
    obtain ⟨x, hx⟩ : ∃ x, E (bs a) (bs b) = x := ⟨_, rfl⟩
    obtain ⟨y, hy⟩ : ∃ y, E (bs r) (bs b) = y := ⟨_, rfl⟩
    obtain ⟨z, hz⟩ : ∃ z, E (bs a) (bs r) = z := ⟨_, rfl⟩
    have bx : x ≤ 20 := by rw [← hx]; exact E_small va vb
    have by' : y ≤ 20 := by rw [← hy]; exact E_small hr vb
    have hz1 : (z : Int) ≤ (cost : Int) := by have := hE hr; rw [hz] at this; omega
    have t1 : (x : Int) - (y : Int) ≤ (cost : Int) := by
      have := E_tri (bs a) (bs r) (bs b)
      rw [hx, hy, hz] at this; omega
    have t2 : (y : Int) - (x : Int) ≤ (cost : Int) := by
      have := E_tri (bs r) (bs a) (bs b)
      rw [E_symm (bs r) (bs a), hx, hy, hz] at this; omega
    have HX := Lib.hid hx
    have HY := Lib.hid hy
    have HZ2 := Lib.hid hz
    clear va vb hr hx hy hz hE
    go_enter Tryd.func5, Tryd.ntmps5
    go_wp2_with fail
    refine (head_any w HT.out).mono ?_
    rintro e w1 ⟨rfl, hb⟩
    have HB1 := Lib.hid hb
    clear hb
    go_wp2_with fail
    refine (plates_any [a, b] w1.heap.size _ (Blk.new w1 _ _) (by simp) HZ.out).mono ?_
    rintro e w2 ⟨rfl, hb⟩
    rw [HV.out]
    have HB2 := Lib.hid (below_step (below_alloc HB1.out _) hb)
    clear hb HB1
    go_wp2_with fail
    refine (HED.out w2).mono ?_
    rintro e w3 ⟨rfl, hb⟩
    have HB3 := Lib.hid (below_step HB2.out hb)
    clear hb HB2
    go_wp2_with fail
    refine (plates_any [r] w3.heap.size _ (Blk.new w3 _ _) (by simp) HZ1.out).mono ?_
    rintro e w4 ⟨rfl, hb⟩
    rw [HR.out]
    have HB4 := Lib.hid (below_step (below_alloc HB3.out _) hb)
    clear hb HB3
    go_wp2_with fail
    refine (Distance_ok a b x w4 (HT.out.below HB4.out) HA.out HB.out HX.out).mono ?_
    rintro e w5 ⟨rfl, hb⟩
    have HB5 := Lib.hid (below_step HB4.out hb)
    clear hb HB4
    go_wp2_with fail
    refine (Distance_ok r b y w5 (HT.out.below HB5.out) HC.out HB.out HY.out).mono ?_
    rintro e w6 ⟨rfl, hb⟩
    have HB6 := Lib.hid (below_step HB5.out hb)
    clear hb HB5
    go_wp2_with fail
    refine (Distance_ok a r z w6 (HT.out.below HB6.out) HA.out HC.out HZ2.out).mono ?_
    rintro e w7 ⟨rfl, hb⟩
    have HB7 := Lib.hid (below_step HB6.out hb)
    clear hb HB6
    go_wp2
    all_goals go_ret
    all_goals exact ⟨ret_bool (by first | rfl | (simp; done) | (simp; omega)), HB7.out⟩
  · have HR := Lib.hid (show allV [r] = false by simp [allV, hr])
    clear va vb hr hE
    go_enter Tryd.func5, Tryd.ntmps5
    go_wp2_with fail
    refine (head_any w HT.out).mono ?_
    rintro e w1 ⟨rfl, hb⟩
    have HB1 := Lib.hid hb
    clear hb
    go_wp2_with fail
    refine (plates_any [a, b] w1.heap.size _ (Blk.new w1 _ _) (by simp) HZ.out).mono ?_
    rintro e w2 ⟨rfl, hb⟩
    rw [HV.out]
    have HB2 := Lib.hid (below_step (below_alloc HB1.out _) hb)
    clear hb HB1
    go_wp2_with fail
    refine (HED.out w2).mono ?_
    rintro e w3 ⟨rfl, hb⟩
    have HB3 := Lib.hid (below_step HB2.out hb)
    clear hb HB2
    go_wp2_with fail
    refine (plates_any [r] w3.heap.size _ (Blk.new w3 _ _) (by simp) HZ1.out).mono ?_
    rintro e w4 ⟨rfl, hb⟩
    rw [HR.out]
    have HB4 := Lib.hid (below_step (below_alloc HB3.out _) hb)
    clear hb HB3
    go_wp2
    go_ret
    exact ⟨rfl, HB4.out⟩

set_option maxHeartbeats 2000000 in
/-- The law where the texts are no plates, or a number is negative. -/
theorem PlateEdits_out (a b : ByteArray) (n m c : Int) (sa : a.size ≤ 140737488351232) (sb : b.size ≤ 140737488351232) (v : Bool) (hv : allV [a, b] = v) (h : v = false ∨ (v = true ∧ n < 0) ∨ (v = true ∧ ¬ n < 0 ∧ m < 0)) (w : World) (hT : Tab w) :
    Calls Tryd.prog 5 #[.string a, .string b, .int .i64 n, .int .i64 m, .int .u8 c] w (Ret (.bool true) w) := by
  have HT := Lib.hid hT
  clear hT
  have HV := Lib.hid hv
  clear hv
  have HZ := Lib.hid (show ∀ s ∈ [a, b], s.size ≤ 9223372036854775807 by simp only [List.mem_cons, List.not_mem_nil, or_false]; rintro s (rfl | rfl) <;> omega)
  rcases h with rfl | ⟨rfl, hn⟩ | ⟨rfl, hn, hm⟩
  all_goals
    go_enter Tryd.func5, Tryd.ntmps5
    go_wp2_with fail
    refine (head_any w HT.out).mono ?_
    rintro e w1 ⟨rfl, hb⟩
    have HB1 := Lib.hid hb
    clear hb
    go_wp2_with fail
    refine (plates_any [a, b] w1.heap.size _ (Blk.new w1 _ _) (by simp) HZ.out).mono ?_
    rintro e w2 ⟨rfl, hb⟩
    rw [HV.out]
    have HB2 := Lib.hid (below_step (below_alloc HB1.out _) hb)
    clear hb HB1
    go_wp2
    go_ret
    exact ⟨rfl, HB2.out⟩

theorem size_of_bs {r : ByteArray} {l : List Nat} (h : bs r = l) : r.size = l.length := by rw [← bs_length, h]

theorem PlateEdits_walk (a b : ByteArray) (n m c : Int) (sa : a.size ≤ 140737488351232) (sb : b.size ≤ 140737488351232) (wn : (Lit.int .i64 n).wf = true) (wm : (Lit.int .i64 m).wf = true) (wc : (Lit.int .u8 c).wf = true) (w : World) (hT : Tab w) :
    Calls Tryd.prog 5 #[.string a, .string b, .int .i64 n, .int .i64 m, .int .u8 c] w (Ret (.bool true) w) := by
  have hn2 : n ≤ 9223372036854775807 := by simp [Lit.wf, IntKind.min, IntKind.max, IntKind.signed, IntKind.bits] at wn; omega
  have hm2 : m ≤ 9223372036854775807 := by simp [Lit.wf, IntKind.min, IntKind.max, IntKind.signed, IntKind.bits] at wm; omega
  have hc2 : 0 ≤ c ∧ c ≤ 255 := by simp [Lit.wf, IntKind.min, IntKind.max, IntKind.signed, IntKind.bits] at wc; omega
  by_cases hv : allV [a, b] = true
  · by_cases hn : n < 0
    · exact PlateEdits_out a b n m c sa sb true hv (.inr (.inl ⟨rfl, hn⟩)) w hT
    · by_cases hm : m < 0
      · exact PlateEdits_out a b n m c sa sb true hv (.inr (.inr ⟨rfl, hn, hm⟩)) w hT
      · obtain ⟨at', rfl⟩ := Int.eq_ofNat_of_zero_le (by omega : 0 ≤ n)
        obtain ⟨kind, rfl⟩ := Int.eq_ofNat_of_zero_le (by omega : 0 ≤ m)
        obtain ⟨c, rfl⟩ := Int.eq_ofNat_of_zero_le hc2.1
        obtain ⟨va, vb⟩ := allV2 hv
        obtain ⟨p1, p2⟩ := valid_size va
        obtain ⟨k, hk⟩ : ∃ k : Nat, (at' : Int) % (a.size : Int) = (k : Int) := ⟨at' % a.size, by omega⟩
        have hkl : k < a.size := by
          have := Int.emod_lt_of_pos (at' : Int) (by omega : (0 : Int) < (a.size : Int))
          omega
        have hkl' : k < (bs a).length := by rw [bs_length]; exact hkl
        have hlen := bs_length a
        have e0 : (a.extract 0 k) = a.extract 0 k := rfl
        have l0 : bs (a.extract 0 k) = (bs a).take k := by rw [bs_extract, List.drop_zero]
        have l1 : bs (a.extract (k + 1) a.size) = (bs a).drop (k + 1) := by rw [bs_extract, List.take_of_length_le (by omega)]
        have l2 : bs (a.extract k a.size) = (bs a).drop k := by rw [bs_extract, List.take_of_length_le (by omega)]
        have lc : bs (oneS c) = [c] := bs_oneS c (by omega)
        have h3 : (kind : Int) % 3 = 0 ∨ (kind : Int) % 3 = 1 ∨ (kind : Int) % 3 = 2 := by omega
        rcases h3 with h3 | h3 | h3
        · have hr : bs (a.extract 0 k ++ a.extract (k + 1) a.size) = (bs a).take k ++ (bs a).drop (k + 1) := by rw [bs_append, l0, l1]
          refine PlateEdits_from a b at' kind c sa sb va vb (by omega) (by omega) _ 2 ?_ (by omega) (fun _ => ?_) (fun W => edited_del a at' kind c k W p1 p2 hk hkl h3) w hT
          · rw [size_of_bs hr]; simp; omega
          · rw [hr]; exact ed_del _ _ hkl'
        · have hr : bs (a.extract 0 k ++ oneS c ++ a.extract k a.size) = (bs a).take k ++ c :: (bs a).drop k := by rw [bs_append, bs_append, l0, l2, lc]; simp
          refine PlateEdits_from a b at' kind c sa sb va vb (by omega) (by omega) _ 2 ?_ (by omega) (fun _ => ?_) (fun W => edited_ins a at' kind c k W p1 p2 hk hkl h3) w hT
          · rw [size_of_bs hr]; simp; omega
          · rw [hr]; exact ed_ins _ _ _
        · have hr : bs (a.extract 0 k ++ oneS c ++ a.extract (k + 1) a.size) = (bs a).take k ++ c :: (bs a).drop (k + 1) := by rw [bs_append, bs_append, l0, l1, lc]; simp
          refine PlateEdits_from a b at' kind c sa sb va vb (by omega) (by omega) _ (rcost (a[k]'hkl).toNat c) ?_ ?_ (fun hv => ?_) (fun W => edited_rep a at' kind c k W p1 p2 hk hkl h3) w hT
          · rw [size_of_bs hr]; simp; omega
          · unfold rcost; split <;> (try split) <;> omega
          · have hc0 : c ≠ 0 := okN_pos (valid_all hv c (by rw [hr]; simp))
            rw [rcost_rc _ _ hc0, hr]
            have e := bs_getD a k hkl
            have e' : (bs a)[k] = (a[k]'hkl).toNat := by simpa [hkl'] using e
            rw [← e']
            exact ed_rep _ _ _ hkl'
  · exact PlateEdits_out a b n m c sa sb false (by simpa using hv) (.inl rfl) w hT

end Go.Proofs.YtnjgmlehcolofaaDoor
