/- chargeparklaw36.backward and PlateBounds. -/
import Derived.Test.YtnjgmlehcolofaaDoorWf36
import Derived.Maps.AppendAt
namespace Go.Proofs.YtnjgmlehcolofaaDoor
open Go.RowKit

/-- A text read backward. -/
def revS (s : ByteArray) : ByteArray := strOfNums ((bs s).reverse.map fun (n : Nat) => (n : Int))

theorem ofNat_toNat (l : List UInt8) : (l.map UInt8.toNat).map (fun n : Nat => UInt8.ofNat ((n : Int)).toNat) = l := by
  induction l with
  | nil => rfl
  | cons x l ih => simp only [List.map_cons, ih]; simp

theorem bs_revS (s : ByteArray) : bs (revS s) = (bs s).reverse := by
  have h : (revS s).data.toList = s.data.toList.reverse := by
    rw [revS, strOfNums_data, List.map_map]
    unfold bs
    rw [← List.map_reverse]
    exact ofNat_toNat _
  rw [bs, h, List.map_reverse]
  rfl
theorem revS_size (s : ByteArray) : (revS s).size = s.size := by rw [← bs_length, bs_revS, List.length_reverse, bs_length]
theorem validS_revS (s : ByteArray) : validS (revS s) = validS s := by
  unfold validS
  rw [revS_size, bs_revS, List.all_reverse]

/-- The bytes that have been read, from the end down to place k. -/
def tailV (s : ByteArray) (k : Nat) : List Value := ((bs s).drop k).reverse.map fun (n : Nat) => Value.int .u8 (n : Int)
theorem tailV_length (s : ByteArray) (k : Nat) : (tailV s k).length = s.size - k := by simp [tailV, bs_length]
theorem tailV_size (s : ByteArray) : tailV s s.size = [] := by
  have : (bs s).drop s.size = [] := by rw [List.drop_eq_nil_iff, bs_length]; exact Nat.le_refl _
  simp [tailV, this]
theorem tailV_step (s : ByteArray) (m : Nat) (h : m < s.size) : tailV s m = tailV s (m + 1) ++ [.int .u8 ((s[m]'h).toNat : Int)] := by
  have hl : m < (bs s).length := by rw [bs_length]; exact h
  have e : (bs s)[m] = (s[m]'h).toNat := by have := bs_getD s m h; simpa [hl] using this
  unfold tailV
  rw [List.drop_eq_getElem_cons hl, e]
  simp

theorem info5 : (Tryd.prog.info? 5).map (fun i => (i.zero, i.size, i.bytes)) = some (some (.int .u8 0), 1, 1) := by kernel_rfl

theorem ownsRow_cast {w : World} {base : Nat} {e : TypeId} {size : Nat} {v : Value} {n n' : Nat} {xs xs' : List Value} (h : w.ownsRow base e size v n xs) (hn : n = n') (hx : xs = xs') : w.ownsRow base e size v n' xs' := by
  subst hn; subst hx; exact h

/-- string(b), b all the bytes. -/
theorem conv_back {s : ByteArray} {base : Nat} {v : Value} {wr : World} (h : wr.ownsRow base 5 1 v (s.size - 0) (tailV s 0)) :
    (convert 43 9 v).run Tryd.prog wr = .ok (.string (revS s)) wr := by
  rw [Nat.sub_zero] at h
  have h' := h
  rcases h.2 with ⟨rfl, hn⟩ | ⟨g, cap, cur, rfl, _, _, _⟩
  · rw [run_convert_bytes_nil wr 43 5 Tryd.underlying43 Tryd.underlying5 0 0 9 Tryd.underlying9]
    have : bs s = [] := List.eq_nil_of_length_eq_zero (by rw [bs_length]; exact hn)
    simp [revS, this, strOfNums]
    rfl
  · refine run_convert_bytes_arg wr 43 5 Tryd.underlying43 Tryd.underlying5 g 0 s.size cap ((bs s).reverse.map fun (n : Nat) => (n : Int)) (by simp [bs_length]) (fun i hi => ?_) 9 Tryd.underlying9
    rw [Nat.zero_add, h'.cellAt i (by omega)]
    have hl : i < (bs s).reverse.length := by rw [List.length_reverse, bs_length]; exact hi
    have e : ((bs s).reverse.map fun (n : Nat) => (n : Int)).getD i 0 = (((bs s).reverse[i] : Nat) : Int) := by
      rw [List.getD, List.getElem?_map, List.getElem?_eq_getElem hl]; rfl
    rw [e]
    unfold tailV
    rw [List.drop_zero, List.getElem?_map, List.getElem?_eq_getElem hl]
    rfl

set_option maxHeartbeats 1000000 in
theorem backward_any (s : ByteArray) (w : World) (hs : s.size ≤ 140737488351232) :
    Calls Tryd.prog 16 #[.string s] w (Ret (.string (revS s)) w) := by
  obtain ⟨i0, hi, hz0, hz1, hz2⟩ := info_parts info5
  go_enter Tryd.func16, Tryd.ntmps16
  go_wp2
  go_loopw [3, 4] (fun v i wr => ∃ (k : Nat) (z : Int), z = (k : Int) - 1 ∧ k ≤ s.size ∧ i = .int .i64 z ∧ wr.ownsRow w.heap.size 5 1 v (s.size - k) (tailV s k) ∧ Below w.heap.size w wr) (fun _ i _ => (intOf i + 1).toNat)
  case atStart => exact ⟨s.size, _, rfl, Nat.le_refl _, rfl, ownsRow_cast (World.ownsRow_nil w _ _ _) (by omega) (tailV_size s).symm, Below.refl _ _⟩
  case round =>
    obtain ⟨k, z, hz, hk, rfl, hown, hb⟩ := hrel
    cases k with
    | zero =>
      obtain rfl : z = -1 := by omega
      have HB := Lib.hid hb
      have hcv := conv_back hown
      clear hz hb hown
      go_wp2
      go_ret
      exact ⟨rfl, HB.out⟩
    | succ m =>
      obtain rfl : z = (m : Int) := by omega
      have hlt : m < s.size := by omega
      have HOWN := Lib.hid hown
      have HB := Lib.hid hb
      clear hown hb hz
      go_wp2_with (at_builtin; refine wpList_append_own _ rfl _ _ 43 rfl w.heap.size 5 i0 (.int .u8 0) 1 1 Tryd.underlying43 hi hz0 hz1 hz2 rfl (by decide) _ _ _ rfl (HOWN.out.alloc _) ⟨wr.heap.size, 0, none⟩ 1 1 [.int .u8 ((s[m]'hlt).toNat : Int)] rfl rfl ?c1 ?c2 ?c3 ?c4 ?c5 ?_)
      case c1 => exact cell_one_new _ _ _
      case c2 => simp [Value.oneCell']
      case c3 => unfold maxLen; omega
      case c4 => omega
      case c5 => have := HB.out.size; simp; omega
      intro v' w1 hown' hgrow _
      have HOWN' := Lib.hid (ownsRow_cast (n' := s.size - m) (xs' := tailV s m) hown' (by omega) (tailV_step s m hlt).symm)
      have HB1 := Lib.hid ((below_alloc HB.out _).grown hgrow (by have := HB.out.size; simp; omega) (fun q hq => (HOWN.out.lt q hq).1))
      clear hown' hgrow
      go_wp2
      go_roundw
      case rel => exact ⟨m, _, rfl, by omega, rfl, HOWN'.out, HB1.out⟩
      case measure => simp [intOf]

/-! ### chargeparklaw36.PlateBounds -/
theorem allV2 {a b : ByteArray} (h : allV [a, b] = true) : validS a = true ∧ validS b = true := by
  simpa [allV] using h
theorem valid_size {s : ByteArray} (h : validS s = true) : 1 ≤ s.size ∧ s.size ≤ 10 := by simp [validS] at h; omega

set_option maxHeartbeats 2000000 in
theorem PlateBounds_walk (a b : ByteArray) (sa : a.size ≤ 140737488351232) (sb : b.size ≤ 140737488351232) (w : World) (hT : Tab w) :
    Calls Tryd.prog 6 #[.string a, .string b] w (Ret (.bool true) w) := by
  have HT := Lib.hid hT
  clear hT
  have HZ := Lib.hid (show ∀ s ∈ [a, b], s.size ≤ 9223372036854775807 by simp only [List.mem_cons, List.not_mem_nil, or_false]; rintro s (rfl | rfl) <;> omega)
  by_cases hv : allV [a, b] = true
  · obtain ⟨va, vb⟩ := allV2 hv
    have HV := Lib.hid hv
    have HA := Lib.hid va
    have HB := Lib.hid vb
    have HA' := Lib.hid (show validS (revS a) = true by rw [validS_revS]; exact va)
    have HB' := Lib.hid (show validS (revS b) = true by rw [validS_revS]; exact vb)
    obtain ⟨x, hx⟩ : ∃ x, E (bs a) (bs b) = x := ⟨_, rfl⟩
    obtain ⟨p1, p2⟩ := valid_size va
    obtain ⟨q1, q2⟩ := valid_size vb
    have bx : x ≤ 20 := by rw [← hx]; exact E_small va vb
    have HX := Lib.hid hx
    have HY := Lib.hid (show E (bs (revS a)) (bs (revS b)) = x by rw [bs_revS, bs_revS, E_rev]; exact hx)
    have l1 : 2 * ((a.size : Int) - (b.size : Int)) ≤ (x : Int) := by have := E_lower (bs a) (bs b); rw [hx, bs_length, bs_length] at this; omega
    have l2 : 2 * ((b.size : Int) - (a.size : Int)) ≤ (x : Int) := by have := E_lower' (bs a) (bs b); rw [hx, bs_length, bs_length] at this; omega
    have l3 : (x : Int) ≤ 2 * (max (a.size : Int) (b.size : Int)) := by have := E_upper (bs a) (bs b); rw [hx, bs_length, bs_length] at this; omega
    clear hv va vb hx sa sb
    have sa : a.size ≤ 140737488351232 := by omega
    have sb : b.size ≤ 140737488351232 := by omega
    go_enter Tryd.func6, Tryd.ntmps6
    go_wp2_with fail
    refine (head_any w HT.out).mono ?_
    rintro e w1 ⟨rfl, hb⟩
    have HB1 := Lib.hid hb
    clear hb
    go_wp2_with fail
    refine (plates_any [a, b] w1.heap.size _ (Blk.new w1 _ _) (by simp) HZ.out).mono ?_
    rintro e w2 ⟨rfl, hb⟩
    rw [HV.out]
    have HB2 := Lib.hid (below_step (below_alloc HB1.out _) hb)
    clear hb HB1
    go_wp2_with fail
    refine (Distance_ok a b x w2 (HT.out.below HB2.out) HA.out HB.out HX.out).mono ?_
    rintro e w3 ⟨rfl, hb⟩
    have HB3 := Lib.hid (below_step HB2.out hb)
    clear hb HB2
    go_wp2_with fail
    refine (backward_any a w3 sa).mono ?_
    rintro e w4 ⟨rfl, hb⟩
    have HB4 := Lib.hid (below_step HB3.out hb)
    clear hb HB3
    go_wp2_with fail
    refine (backward_any b w4 sb).mono ?_
    rintro e w5 ⟨rfl, hb⟩
    have HB5 := Lib.hid (below_step HB4.out hb)
    clear hb HB4
    go_wp2_with fail
    refine (Distance_ok (revS a) (revS b) x w5 (HT.out.below HB5.out) HA'.out HB'.out HY.out).mono ?_
    rintro e w6 ⟨rfl, hb⟩
    have HB6 := Lib.hid (below_step HB5.out hb)
    clear hb HB5
    go_wp2
    all_goals go_ret
    all_goals exact ⟨ret_bool (by simp; omega), HB6.out⟩
  · have HV := Lib.hid (show allV [a, b] = false by simpa using hv)
    clear hv
    go_enter Tryd.func6, Tryd.ntmps6
    go_wp2_with fail
    refine (head_any w HT.out).mono ?_
    rintro e w1 ⟨rfl, hb⟩
    have HB1 := Lib.hid hb
    clear hb
    go_wp2_with fail
    refine (plates_any [a, b] w1.heap.size _ (Blk.new w1 _ _) (by simp) HZ.out).mono ?_
    rintro e w2 ⟨rfl, hb⟩
    rw [HV.out]
    have HB2 := Lib.hid (below_step (below_alloc HB1.out _) hb)
    clear hb HB1
    go_wp2
    go_ret
    exact ⟨rfl, HB2.out⟩

end Go.Proofs.YtnjgmlehcolofaaDoor
