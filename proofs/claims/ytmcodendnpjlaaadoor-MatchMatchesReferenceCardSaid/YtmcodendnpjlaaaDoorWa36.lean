/- The functions of package plate and of its reference, called: Valid, replace, Twin, Cost. -/
import Derived.Test.YtmcodendnpjlaaaDoorRows
import Derived.Handy
import Derived.Test.YtmcodendnpjlaaaDoorKit
import Derived.Test.YtmcodendnpjlaaaDoorPlain36
namespace Go.Proofs.YtmcodendnpjlaaaDoor
open Go.RowKit

/-- The bytes of a text, as numbers. -/
def bs (s : ByteArray) : List Nat := s.data.toList.map UInt8.toNat

theorem bs_length (s : ByteArray) : (bs s).length = s.size := by simp [bs]
theorem bs_getD (s : ByteArray) (k : Nat) (h : k < s.size) : (bs s).getD k 0 = s[k].toNat := by
  have h' : k < s.data.size := h
  have e : s.data[k]? = some s[k] := by rw [Array.getElem?_eq_getElem h']; rfl
  simp [bs, e]
theorem bs_take_succ (s : ByteArray) (k : Nat) (h : k < s.size) : (bs s).take (k + 1) = (bs s).take k ++ [s[k].toNat] := by
  have h' : k < (bs s).length := by rw [bs_length]; exact h
  rw [List.take_succ_eq_append_getElem h']
  have := bs_getD s k h
  simp [h'] at this
  rw [this]

def allOk (s : ByteArray) (k : Nat) : Prop := ((bs s).take k).all okN = true
def validS (s : ByteArray) : Bool := decide (1 ≤ s.size) && decide (s.size ≤ 10) && (bs s).all okN

theorem allOk_zero (s : ByteArray) : allOk s 0 := by simp [allOk]
theorem allOk_succ {s : ByteArray} {k : Nat} (h : k < s.size) (ha : allOk s k) (ho : okN s[k].toNat = true) : allOk s (k + 1) := by
  unfold allOk at *
  rw [bs_take_succ s k h]; simp [ho]; simpa using ha
theorem allOk_end {s : ByteArray} {k : Nat} (h : ¬ k < s.size) (ha : allOk s k) : (bs s).all okN = true := by
  unfold allOk at ha
  rwa [List.take_of_length_le (by rw [bs_length]; omega)] at ha
theorem not_allOk {s : ByteArray} {k : Nat} (h : k < s.size) (ho : okN s[k].toNat = false) : (bs s).all okN = false := by
  rw [Bool.eq_false_iff]
  intro hall
  rw [List.all_eq_true] at hall
  have hk : k < (bs s).length := by rw [bs_length]; exact h
  have := hall (bs s)[k] (List.getElem_mem _)
  have e := bs_getD s k h
  simp [hk] at e
  rw [e, ho] at this
  cases this
theorem validS_mk {s : ByteArray} (h1 : 1 ≤ s.size) (h2 : s.size ≤ 10) {b : Bool} (h : (bs s).all okN = b) : validS s = b := by
  simp [validS, h1, h2, h]
theorem validS_small {s : ByteArray} (h : s.size < 1) : validS s = false := by
  have : ¬ 1 ≤ s.size := by omega
  simp [validS, this]
theorem validS_big {s : ByteArray} (h : 10 < s.size) : validS s = false := by
  have : ¬ s.size ≤ 10 := by omega
  simp [validS, this]
theorem validS_bad {s : ByteArray} (h : (bs s).all okN = false) : validS s = false := by simp [validS, h]

theorem ok_true (n : Nat) (h : (65 ≤ (n : Int) ∧ (n : Int) ≤ 90) ∨ (48 ≤ (n : Int) ∧ (n : Int) ≤ 57)) : okN n = true := by
  simp [okN]; omega
theorem ok_false (n : Nat) (h : ¬ ((65 ≤ (n : Int) ∧ (n : Int) ≤ 90) ∨ (48 ≤ (n : Int) ∧ (n : Int) ≤ 57))) : okN n = false := by
  rw [Bool.eq_false_iff]; intro h'; simp [okN] at h'; omega

theorem ret_bool {b b' : Bool} (h : b = b') : Ending.returned (.bool b) = .returned (.bool b') := by rw [h]

/-! ### plate.Valid -/
set_option maxHeartbeats 1000000 in
theorem Valid_loop (s : ByteArray) (w : World) (h : ¬ (s.size : Int) < 1) (h2 : ¬ (10 < (s.size : Int))) :
    Calls Tryd.prog 34 #[.string s] w (Ret (.bool (validS s)) w) := by
  go_enter Tryd.func34, Tryd.ntmps34
  go_wp2
  go_loopw [4] (fun _ w' => ∃ pos : Nat, w' = w.iter s pos ∧ allOk s pos) (fun _ w' => s.size - w'.iterPos w.heap.size)
  case atStart => exact ⟨0, rfl, allOk_zero s⟩
  case round =>
    obtain ⟨pos, rfl, hall⟩ := hrel
    by_cases hp : pos < s.size
    · by_cases ha : (s[pos]'hp).toNat < 128
      · have hn := fun ty => run_next_ascii (P := Tryd.prog) w s pos ty hp ha
        have hc : (65 ≤ ((s[pos]'hp).toNat : Int) ∧ ((s[pos]'hp).toNat : Int) ≤ 90) ∨ (48 ≤ ((s[pos]'hp).toNat : Int) ∧ ((s[pos]'hp).toNat : Int) ≤ 57) ∨ ((s[pos]'hp).toNat : Int) < 48 ∨ (57 < ((s[pos]'hp).toNat : Int) ∧ ((s[pos]'hp).toNat : Int) < 65) ∨ 90 < ((s[pos]'hp).toNat : Int) := by omega
        rcases hc with ⟨c1, c2⟩ | ⟨c1, c2⟩ | c1 | ⟨c1, c2⟩ | c1
        · have HO := Lib.hid (ok_true (s[pos]'hp).toNat (by omega))
          go_wp2
          refine ⟨⟨pos + 1, rfl, allOk_succ hp hall HO.out⟩, ?_⟩
          simp; omega
        · have HO := Lib.hid (ok_true (s[pos]'hp).toNat (by omega))
          have d1 : decide ((65 : Int) ≤ ((s[pos]'hp).toNat : Int)) = false := by simp; omega
          go_wp2
          refine ⟨⟨pos + 1, rfl, allOk_succ hp hall HO.out⟩, ?_⟩
          simp; omega
        · have HV := Lib.hid (validS_bad (not_allOk hp (ok_false _ (by omega))))
          have d1 : decide ((65 : Int) ≤ ((s[pos]'hp).toNat : Int)) = false := by simp; omega
          have d2 : decide ((48 : Int) ≤ ((s[pos]'hp).toNat : Int)) = false := by simp; omega
          go_wp2
          go_ret
          exact ⟨by rw [HV.out]; rfl, (Below.refl _ w).alloc (Nat.le_refl _) _⟩
        · have HV := Lib.hid (validS_bad (not_allOk hp (ok_false _ (by omega))))
          have d1 : decide ((65 : Int) ≤ ((s[pos]'hp).toNat : Int)) = false := by simp; omega
          have d2 : (48 : Int) ≤ ((s[pos]'hp).toNat : Int) := by omega
          have d3 : decide (((s[pos]'hp).toNat : Int) ≤ 57) = false := by simp; omega
          go_wp2
          go_ret
          exact ⟨by rw [HV.out]; rfl, (Below.refl _ w).alloc (Nat.le_refl _) _⟩
        · have HV := Lib.hid (validS_bad (not_allOk hp (ok_false _ (by omega))))
          have d0 : (65 : Int) ≤ ((s[pos]'hp).toNat : Int) := by omega
          have d1 : decide (((s[pos]'hp).toNat : Int) ≤ 90) = false := by simp; omega
          have d2 : (48 : Int) ≤ ((s[pos]'hp).toNat : Int) := by omega
          have d3 : decide (((s[pos]'hp).toNat : Int) ≤ 57) = false := by simp; omega
          go_wp2
          go_ret
          exact ⟨by rw [HV.out]; rfl, (Below.refl _ w).alloc (Nat.le_refl _) _⟩
      · have hn := fun ty => run_next_any (P := Tryd.prog) w s pos ty hp
        obtain ⟨hd1, hd2⟩ := decode_high s pos hp (by omega)
        have HV := Lib.hid (validS_bad (not_allOk hp (ok_false _ (by omega))))
        generalize Utf8.decode s pos = dc at hn hd1 hd2
        obtain ⟨r, n⟩ := dc
        simp only at hn hd1 hd2
        have hd3 : (65 : Int) ≤ (r : Int) := by omega
        have hd6 : (48 : Int) ≤ (r : Int) := by omega
        have hd4 : decide ((r : Int) ≤ 90) = false := by simp; omega
        have hd5 : decide ((r : Int) ≤ 57) = false := by simp; omega
        go_wp2
        go_ret
        exact ⟨by rw [HV.out]; rfl, (Below.refl _ w).alloc (Nat.le_refl _) _⟩
    · have hn := fun ty => run_next_end (P := Tryd.prog) w s pos ty hp
      have HV := Lib.hid (validS_mk (by omega) (by omega) (allOk_end hp hall))
      go_wp2
      go_ret
      exact ⟨by rw [HV.out]; rfl, (Below.refl _ w).alloc (Nat.le_refl _) _⟩

theorem Valid_any (s : ByteArray) (w : World) : Calls Tryd.prog 34 #[.string s] w (Ret (.bool (validS s)) w) := by
  by_cases h : (s.size : Int) < 1
  · have HV := Lib.hid (validS_small (s := s) (by omega))
    go_enter Tryd.func34, Tryd.ntmps34
    go_wp2
    go_ret
    exact ⟨by rw [HV.out]; rfl, Below.refl _ _⟩
  · by_cases h2 : 10 < (s.size : Int)
    · have HV := Lib.hid (validS_big (s := s) (by omega))
      go_enter Tryd.func34, Tryd.ntmps34
      go_wp2
      go_ret
      exact ⟨by rw [HV.out]; rfl, Below.refl _ _⟩
    · exact Valid_loop s w h h2

/-! ### chargeparkref36.Valid -/
set_option maxHeartbeats 1000000 in
theorem RValid_any (s : ByteArray) (w : World) (hs : s.size ≤ 9223372036854775807) :
    Calls Tryd.prog 33 #[.string s] w (Ret (.bool (validS s)) w) := by
  go_enter Tryd.func33, Tryd.ntmps33
  go_wp2
  go_loop [3] (fun i => ∃ k : Nat, k ≤ s.size ∧ i = .int .i64 k ∧ allOk s k) (fun i => s.size - (intOf i).toNat)
  case atStart => exact ⟨0, Nat.zero_le _, rfl, allOk_zero s⟩
  case round =>
    obtain ⟨k, hk, rfl, hall⟩ := hrel
    by_cases hp : k < s.size
    · have hc : (65 ≤ ((s[k]'hp).toNat : Int) ∧ ((s[k]'hp).toNat : Int) ≤ 90) ∨ (48 ≤ ((s[k]'hp).toNat : Int) ∧ ((s[k]'hp).toNat : Int) ≤ 57) ∨ ((s[k]'hp).toNat : Int) < 48 ∨ (57 < ((s[k]'hp).toNat : Int) ∧ ((s[k]'hp).toNat : Int) < 65) ∨ 90 < ((s[k]'hp).toNat : Int) := by omega
      rcases hc with ⟨c1, c2⟩ | ⟨c1, c2⟩ | c1 | ⟨c1, c2⟩ | c1
      · have HO := Lib.hid (ok_true (s[k]'hp).toNat (by omega))
        have d2 : (48 : Int) ≤ ((s[k]'hp).toNat : Int) := by omega
        have d3 : decide (((s[k]'hp).toNat : Int) ≤ 57) = false := by simp; omega
        go_wp2
        go_round
        case rel => exact ⟨k + 1, by omega, by go_num, allOk_succ hp hall HO.out⟩
        case measure => simp [intOf]; omega
      · have HO := Lib.hid (ok_true (s[k]'hp).toNat (by omega))
        have d1 : decide ((65 : Int) ≤ ((s[k]'hp).toNat : Int)) = false := by simp; omega
        go_wp2
        go_round
        case rel => exact ⟨k + 1, by omega, by go_num, allOk_succ hp hall HO.out⟩
        case measure => simp [intOf]; omega
      · have HV := Lib.hid (validS_bad (not_allOk hp (ok_false _ (by omega))))
        have d1 : decide ((65 : Int) ≤ ((s[k]'hp).toNat : Int)) = false := by simp; omega
        have d2 : decide ((48 : Int) ≤ ((s[k]'hp).toNat : Int)) = false := by simp; omega
        go_wp2
        go_ret
        exact ⟨by rw [HV.out]; rfl, Below.refl _ _⟩
      · have HV := Lib.hid (validS_bad (not_allOk hp (ok_false _ (by omega))))
        have d1 : decide ((65 : Int) ≤ ((s[k]'hp).toNat : Int)) = false := by simp; omega
        have d2 : (48 : Int) ≤ ((s[k]'hp).toNat : Int) := by omega
        have d3 : decide (((s[k]'hp).toNat : Int) ≤ 57) = false := by simp; omega
        go_wp2
        go_ret
        exact ⟨by rw [HV.out]; rfl, Below.refl _ _⟩
      · have HV := Lib.hid (validS_bad (not_allOk hp (ok_false _ (by omega))))
        have d0 : (65 : Int) ≤ ((s[k]'hp).toNat : Int) := by omega
        have d1 : decide (((s[k]'hp).toNat : Int) ≤ 90) = false := by simp; omega
        have d2 : (48 : Int) ≤ ((s[k]'hp).toNat : Int) := by omega
        have d3 : decide (((s[k]'hp).toNat : Int) ≤ 57) = false := by simp; omega
        go_wp2
        go_ret
        exact ⟨by rw [HV.out]; rfl, Below.refl _ _⟩
    · by_cases h1 : (s.size : Int) < 1
      · have HV := Lib.hid (validS_small (s := s) (by omega))
        go_wp2
        go_ret
        exact ⟨by rw [HV.out]; rfl, Below.refl _ _⟩
      · have h1' : (1 : Int) ≤ (s.size : Int) := by omega
        by_cases h2 : 10 < (s.size : Int)
        · have HV := Lib.hid (validS_big (s := s) (by omega))
          go_wp2
          go_ret
          exact ⟨ret_bool (by first | (rw [HV.out]; done) | (rw [HV.out]; simp; done) | (rw [HV.out]; simp; omega)), Below.refl _ _⟩
        · have HV := Lib.hid (validS_mk (by omega) (by omega) (allOk_end hp hall))
          go_wp2
          go_ret
          exact ⟨ret_bool (by first | (rw [HV.out]; done) | (rw [HV.out]; simp; done) | (rw [HV.out]; simp; omega)), Below.refl _ _⟩


end Go.Proofs.YtmcodendnpjlaaaDoor
