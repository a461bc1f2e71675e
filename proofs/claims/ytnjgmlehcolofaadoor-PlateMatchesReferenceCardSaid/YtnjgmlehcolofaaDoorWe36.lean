/- chargeparklaw36: is, head, plates. -/
import Derived.Test.YtnjgmlehcolofaaDoorWc36
namespace Go.Proofs.YtnjgmlehcolofaaDoor
open Go.RowKit

def isB (a b : ByteArray) (n : Int) : Bool := validS a && validS b && ((E (bs a) (bs b) : Int) == n)

theorem distV_ok {a b : ByteArray} (h : (validS a && validS b) = true) : distV a b = .tuple #[.int .i64 (E (bs a) (bs b) : Nat), .int .i64 0] := by simp [distV, h]
theorem distV_no {a b : ByteArray} (h : (validS a && validS b) = false) : distV a b = .tuple #[.int .i64 0, .int .i64 1] := by simp [distV, h]

set_option maxHeartbeats 400000 in
theorem is_any (a b : ByteArray) (n : Int) (w : World) (hT : Tab w) : Calls Tryd.prog 18 #[.string a, .string b, .int .i64 n] w (Ret (.bool (isB a b n)) w) := by
  have HT := Lib.hid hT
  clear hT
  by_cases h : (validS a && validS b) = true
  · have HD := Lib.hid (distV_ok h)
    have HI := Lib.hid (show isB a b n = ((E (bs a) (bs b) : Int) == n) by simp [isB, h])
    clear h
    go_enter Tryd.func18, Tryd.ntmps18
    go_wp2_with fail
    refine (Distance_any a b w HT.out).mono ?_
    rintro e w1 ⟨rfl, hb1⟩
    rw [HD.out]
    go_wp2
    go_ret
    exact ⟨by rw [HI.out]; rfl, hb1⟩
  · have h' : (validS a && validS b) = false := by simpa using h
    have HD := Lib.hid (distV_no h')
    have HI := Lib.hid (show isB a b n = false by simp [isB, h'])
    clear h h'
    go_enter Tryd.func18, Tryd.ntmps18
    go_wp2_with fail
    refine (Distance_any a b w HT.out).mono ?_
    rintro e w1 ⟨rfl, hb1⟩
    rw [HD.out]
    go_wp2
    go_ret
    exact ⟨by rw [HI.out]; rfl, hb1⟩

theorem is_true (a b : ByteArray) (n : Int) (w : World) (hT : Tab w) (h : isB a b n = true) : Calls Tryd.prog 18 #[.string a, .string b, .int .i64 n] w (Ret (.bool true) w) := by
  have := is_any a b n w hT
  rwa [h] at this
theorem Distance_bad (a b : ByteArray) (w : World) (hT : Tab w) (h : (validS a && validS b) = false) : Calls Tryd.prog 10 #[.string a, .string b] w (Ret (.tuple #[.int .i64 0, .int .i64 1]) w) := by
  have := Distance_any a b w hT
  rwa [distV_no h] at this
theorem Valid_is (s : ByteArray) (r : Bool) (w : World) (h : validS s = r) : Calls Tryd.prog 12 #[.string s] w (Ret (.bool r) w) := by
  have := Valid_any s w
  rwa [h] at this

set_option maxHeartbeats 1000000 in
theorem head_any (w : World) (hT : Tab w) : Calls Tryd.prog 9 #[] w (Ret (.bool true) w) := by
  have HT := Lib.hid hT
  clear hT
  go_enter Tryd.func9, Tryd.ntmps9
  go_wp2_with fail
  refine (Distance_bad _ _ w HT.out (by decide +kernel)).mono ?_
  rintro e w1 ⟨rfl, hb1⟩
  have HT1 := Lib.hid (HT.out.below hb1)
  go_wp2_with fail
  refine (Distance_bad _ _ w1 HT1.out (by decide +kernel)).mono ?_
  rintro e w2 ⟨rfl, hb2⟩
  have HB2 := Lib.hid (below_step hb1 hb2)
  clear hb1 hb2 HT1
  go_wp2_with fail
  refine (Valid_is _ true w2 (by decide +kernel)).mono ?_
  rintro e w3 ⟨rfl, hb3⟩
  have HB3 := Lib.hid (below_step HB2.out hb3)
  clear hb3 HB2
  go_wp2_with fail
  refine (Valid_is _ false w3 (by decide +kernel)).mono ?_
  rintro e w4 ⟨rfl, hb4⟩
  have HB4 := Lib.hid (below_step HB3.out hb4)
  clear hb4 HB3
  go_wp2_with fail
  refine (is_true _ _ _ w4 (HT.out.below HB4.out) (by decide +kernel)).mono ?_
  rintro e w5 ⟨rfl, hb⟩
  have HB5 := Lib.hid (below_step HB4.out hb)
  clear hb HB4
  go_wp2_with fail
  refine (is_true _ _ _ w5 (HT.out.below HB5.out) (by decide +kernel)).mono ?_
  rintro e w6 ⟨rfl, hb⟩
  have HB6 := Lib.hid (below_step HB5.out hb)
  clear hb HB5
  go_wp2_with fail
  refine (is_true _ _ _ w6 (HT.out.below HB6.out) (by decide +kernel)).mono ?_
  rintro e w7 ⟨rfl, hb⟩
  have HB7 := Lib.hid (below_step HB6.out hb)
  clear hb HB6
  go_wp2_with fail
  refine (is_true _ _ _ w7 (HT.out.below HB7.out) (by decide +kernel)).mono ?_
  rintro e w8 ⟨rfl, hb⟩
  have HB8 := Lib.hid (below_step HB7.out hb)
  clear hb HB7
  go_wp2_with fail
  refine (is_true _ _ _ w8 (HT.out.below HB8.out) (by decide +kernel)).mono ?_
  rintro e w9 ⟨rfl, hb⟩
  have HB9 := Lib.hid (below_step HB8.out hb)
  clear hb HB8
  go_wp2_with fail
  refine (is_true _ _ _ w9 (HT.out.below HB9.out) (by decide +kernel)).mono ?_
  rintro e w10 ⟨rfl, hb⟩
  have HB10 := Lib.hid (below_step HB9.out hb)
  clear hb HB9
  go_wp2
  go_ret
  exact ⟨rfl, HB10.out⟩

/-! ### plates: the slice that the call made -/

/-- A row of texts lies in block g. -/
def Texts (w : World) (g : Nat) (ss : List ByteArray) : Prop := Blk w g 9 (ss.map Value.string).toArray
theorem Texts.cell {w : World} {g : Nat} {ss : List ByteArray} (h : Texts w g ss) {k : Nat} (hk : k < ss.length) : w.cell? ⟨g, k, none⟩ = some (.string ss[k]) := by
  rw [Blk.cell h]; simp [hk]

def allV (ss : List ByteArray) : Bool := ss.all validS
theorem allV_bad {ss : List ByteArray} {k : Nat} (hk : k < ss.length) (h : validS ss[k] = false) : allV ss = false := by
  rw [allV, Bool.eq_false_iff]
  intro hall
  rw [List.all_eq_true] at hall
  rw [hall _ (List.getElem_mem hk)] at h
  cases h
def uptoV (ss : List ByteArray) (k : Nat) : Prop := (ss.take k).all validS = true
theorem uptoV_succ {ss : List ByteArray} {k : Nat} (hk : k < ss.length) (h : uptoV ss k) (hv : validS ss[k] = true) : uptoV ss (k + 1) := by
  unfold uptoV at *
  rw [List.take_succ_eq_append_getElem hk, List.all_append, h]; simp [hv]
theorem uptoV_end {ss : List ByteArray} {k : Nat} (hk : ¬ k < ss.length) (h : uptoV ss k) : allV ss = true := by
  unfold uptoV at h
  rwa [List.take_of_length_le (by omega)] at h

set_option maxHeartbeats 1000000 in
theorem plates_any (ss : List ByteArray) (g : Nat) (w : World) (hs : Texts w g ss) (hl : ss.length ≤ 100) (hz : ∀ s ∈ ss, s.size ≤ 9223372036854775807) :
    Calls Tryd.prog 14 #[.slice (some ⟨g, 0, none⟩) ss.length ss.length] w (Ret (.bool (allV ss)) w) := by
  have HS := Lib.hid hs
  have HZ := Lib.hid hz
  clear hs hz
  go_enter Tryd.func14, Tryd.ntmps14
  go_wp2
  go_loopw [3] (fun i wr => ∃ k : Nat, k ≤ ss.length ∧ i = .int .i64 k ∧ uptoV ss k ∧ Below w.heap.size w wr) (fun i _ => ss.length - (intOf i).toNat)
  case atStart => exact ⟨0, Nat.zero_le _, rfl, by simp [uptoV], Below.refl _ _⟩
  case round =>
    obtain ⟨k, hk, rfl, hu, hb⟩ := hrel
    have HU := Lib.hid hu
    have HB := Lib.hid hb
    clear hu hb
    by_cases hlt : k < ss.length
    · have hc := Texts.cell (Blk.later HS.out HB.out) hlt
      have y1 : (k : Int) < (ss.length : Int) := by omega
      by_cases hv : validS ss[k] = true
      · have HV := Lib.hid hv
        clear hv
        go_wp2_with fail
        refine (RValid_any _ wr (HZ.out _ (List.getElem_mem hlt))).mono ?_
        rintro e w1 ⟨rfl, hb1⟩
        rw [HV.out]
        go_wp2
        go_roundw
        case rel => exact ⟨k + 1, by omega, by go_num, uptoV_succ hlt HU.out HV.out, below_step HB.out hb1⟩
        case measure => simp [intOf]; omega
      · have HV := Lib.hid (show validS ss[k] = false by simpa using hv)
        have HA := Lib.hid (allV_bad hlt HV.out)
        clear hv
        go_wp2_with fail
        refine (RValid_any _ wr (HZ.out _ (List.getElem_mem hlt))).mono ?_
        rintro e w1 ⟨rfl, hb1⟩
        rw [HV.out]
        go_wp2
        go_ret
        exact ⟨by rw [HA.out]; rfl, below_step HB.out hb1⟩
    · have HA := Lib.hid (uptoV_end hlt HU.out)
      go_wp2
      go_ret
      exact ⟨by rw [HA.out]; rfl, HB.out⟩

end Go.Proofs.YtnjgmlehcolofaaDoor
