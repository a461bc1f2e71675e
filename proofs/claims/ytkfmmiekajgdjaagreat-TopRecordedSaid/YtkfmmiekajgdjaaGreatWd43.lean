/- Package auditor: isName. -/
import Derived.Test.YtkfmmiekajgdjaaGreatWc43
namespace Go.Proofs.YtkfmmiekajgdjaaGreat
open Go.RowKit
attribute [local go_sem] Oper.semAt_some

def bAt (s : ByteArray) (k : Nat) : Nat := if h : k < s.size then s[k].toNat else 0
theorem bAt_eq {s : ByteArray} {k : Nat} (h : k < s.size) : bAt s k = s[k].toNat := by unfold bAt; rw [dif_pos h]
def okB (c : Nat) : Bool := (decide (97 ≤ c) && decide (c ≤ 122)) || ((decide (48 ≤ c) && decide (c ≤ 57)) || decide (c = 95))
def bytesOk (s : ByteArray) : Bool := (List.range s.size).all (fun k => okB (bAt s k))
def lenN (n : Nat) : Bool := decide (1 ≤ (n : Int)) && decide ((n : Int) ≤ 12)
def nameA (s : ByteArray) : Bool := lenN s.size && (!decide (bAt s 0 < 97) && (!decide (122 < bAt s 0) && (!isKeyA s && bytesOk s)))
theorem bytesOk_bad {s : ByteArray} {k : Nat} (hk : k < s.size) (h : okB (bAt s k) = false) : bytesOk s = false := by
  unfold bytesOk
  rw [List.all_eq_false]
  exact ⟨k, List.mem_range.2 hk, by simp [h]⟩
theorem bytesOk_good {s : ByteArray} (h : ∀ k, k < s.size → okB (bAt s k) = true) : bytesOk s = true := by
  unfold bytesOk
  rw [List.all_eq_true]
  exact fun k hk => h k (List.mem_range.1 hk)

set_option maxRecDepth 100000 in
set_option maxHeartbeats 16000000 in
theorem isNameA_any (s : ByteArray) (w : World) (hl : s.size ≤ 9000000000000000000) : Calls Tryz.prog 74 #[.string s] w (fun e w' => e = .returned (.bool (nameA s)) ∧ w = w') := by
  obtain ⟨V, hV⟩ : ∃ V, nameA s = V := ⟨_, rfl⟩
  rw [hV]
  have HV := Lib.hid (show (lenN s.size && (!decide (bAt s 0 < 97) && (!decide (122 < bAt s 0) && (!isKeyA s && bytesOk s)))) = V from hV)
  clear hV
  go_enter Tryz.func74, Tryz.ntmps74
  go_wp2_with fail
  refine (insideA_any _ _ _ w).mono ?_
  rintro _ _ ⟨rfl, rfl⟩
  rw [show (decide ((1 : Int) ≤ (s.size : Int)) && decide ((s.size : Int) ≤ 12)) = lenN s.size from rfl]
  obtain ⟨b, hb⟩ : ∃ b, lenN s.size = b := ⟨_, rfl⟩
  rw [hb] at HV ⊢
  have HL := Lib.hid hb
  clear hb
  cases b with
  | false =>
    obtain rfl : false = V := by rw [← HV.out]; rfl
    go_wp2
    go_ret
    exact ⟨rfl, rfl⟩
  | true =>
  have h0 : 0 < s.size := by have := HL.out; unfold lenN at this; simp at this; omega
  have hlen : s.size ≤ 12 := by have := HL.out; unfold lenN at this; simp at this; omega
  have HB0 := Lib.hid (bAt_eq h0)
  rw [HB0.out] at HV
  have hi0 : (0 : Int) < (s.size : Int) := by omega
  obtain ⟨c, hc⟩ : ∃ c, s[0].toNat = c := ⟨_, rfl⟩
  rw [hc] at HV
  by_cases h97 : c < 97
  · have d1 : decide ((c : Int) < 97) = true := decide_eq_true (by omega)
    obtain rfl : false = V := by rw [← HV.out, decide_eq_true h97]; rfl
    clear h97
    go_wp2
    go_ret
    exact ⟨rfl, rfl⟩
  have d1 : decide ((c : Int) < 97) = false := decide_eq_false (by omega)
  by_cases h122 : 122 < c
  · have d2 : decide ((122 : Int) < (c : Int)) = true := decide_eq_true (by omega)
    obtain rfl : false = V := by rw [← HV.out, decide_eq_true h122]; simp
    clear h122 h97
    go_wp2
    go_ret
    exact ⟨rfl, rfl⟩
  have d2 : decide ((122 : Int) < (c : Int)) = false := decide_eq_false (by omega)
  have HV2 := Lib.hid (show (!isKeyA s && bytesOk s) = V by rw [← HV.out, decide_eq_false h97, decide_eq_false h122]; rfl)
  clear HV h97 h122
  go_wp2_with fail
  refine (isKeyA_any s w).mono ?_
  rintro _ _ ⟨rfl, rfl⟩
  obtain ⟨b, hb⟩ : ∃ b, isKeyA s = b := ⟨_, rfl⟩
  rw [hb] at HV2 ⊢
  clear hb d1 d2 hc
  cases b with
  | true =>
    obtain rfl : false = V := by rw [← HV2.out]; rfl
    go_wp2
    go_ret
    exact ⟨rfl, rfl⟩
  | false =>
  have HV3 := Lib.hid (show bytesOk s = V from HV2.out)
  clear HV2
  go_wp2
  go_loop [25] (fun i => ∃ k : Nat, k ≤ s.size ∧ i = .int .i64 k ∧ ∀ j, j < k → okB (bAt s j) = true) (fun i => s.size - (intOf i).toNat)
  case atStart => exact ⟨0, Nat.zero_le _, rfl, fun j hj => absurd hj (Nat.not_lt_zero _)⟩
  case round =>
    obtain ⟨k, hk, rfl, hz⟩ := hrel
    have HZ := Lib.hid hz
    clear hz
    by_cases hlt : k < s.size
    · have HBK := Lib.hid (bAt_eq hlt)
      have hil : (k : Int) < (s.size : Int) := by omega
      have HBAD := Lib.hid (fun h => bytesOk_bad (s := s) hlt h)
      obtain ⟨c, hc⟩ : ∃ c, s[k].toNat = c := ⟨_, rfl⟩
      have HCK := Lib.hid (show bAt s k = c by rw [HBK.out, hc])
      rw [HCK.out] at HBAD
      have HGOOD := Lib.hid (fun (h : okB c = true) => show ∀ j, j < k + 1 → okB (bAt s j) = true from fun j hj => by
        by_cases e : j = k
        · subst e; rw [HCK.out]; exact h
        · exact HZ.out j (by omega))
      have hck : IntKind.u8.wrap (c : Int) = (c : Int) := by have := UInt8.toNat_lt s[k]; rw [hc] at this; simp [IntKind.wrap, IntKind.bits, IntKind.signed]; omega
      clear HBK HCK
      by_cases h1 : 97 ≤ c
      · by_cases h2 : c ≤ 122
        · have HN := Lib.hid (HGOOD.out (by unfold okB; rw [decide_eq_true h1, decide_eq_true h2]; rfl))
          have f0 : decide ((97 : Int) ≤ (c : Int)) = true := decide_eq_true (by omega)
          have f1 : decide ((c : Int) ≤ 122) = true := decide_eq_true (by omega)
          clear h1 h2
          go_wp2
          go_round
          case rel => exact ⟨k + 1, hlt, by go_num, HN.out⟩
          case measure => simp [intOf]; omega
        · have HX := Lib.hid (HBAD.out (by unfold okB; rw [decide_eq_true h1, decide_eq_false h2, decide_eq_false (show ¬ c ≤ 57 by omega), decide_eq_false (show ¬ c = 95 by omega)]; simp))
          have f0 : decide ((97 : Int) ≤ (c : Int)) = true := decide_eq_true (by omega)
          have f1 : decide ((c : Int) ≤ 122) = false := decide_eq_false (by omega)
          have f2 : decide ((48 : Int) ≤ (c : Int)) = true := decide_eq_true (by omega)
          have f3 : decide ((c : Int) ≤ 57) = false := decide_eq_false (by omega)
          have f4 : ((c : Int) == 95) = false := by rw [beq_eq_false_iff_ne]; omega
          obtain rfl : false = V := by rw [← HV3.out, HX.out]
          clear h1 h2
          go_wp2
          go_ret
          exact ⟨rfl, rfl⟩
      by_cases h3 : 48 ≤ c
      · by_cases h4 : c ≤ 57
        · have HN := Lib.hid (HGOOD.out (by unfold okB; rw [decide_eq_true h3, decide_eq_true h4]; simp))
          have f0 : decide ((97 : Int) ≤ (c : Int)) = false := decide_eq_false (by omega)
          have f1 : decide ((48 : Int) ≤ (c : Int)) = true := decide_eq_true (by omega)
          have f2 : decide ((c : Int) ≤ 57) = true := decide_eq_true (by omega)
          clear h1 h3 h4
          go_wp2
          go_round
          case rel => exact ⟨k + 1, hlt, by go_num, HN.out⟩
          case measure => simp [intOf]; omega
        · by_cases h5 : c = 95
          · have HN := Lib.hid (HGOOD.out (by unfold okB; rw [decide_eq_true h5]; simp))
            have f0 : decide ((97 : Int) ≤ (c : Int)) = false := decide_eq_false (by omega)
            have f1 : decide ((48 : Int) ≤ (c : Int)) = true := decide_eq_true (by omega)
            have f2 : decide ((c : Int) ≤ 57) = false := decide_eq_false (by omega)
            have f4 : ((c : Int) == 95) = true := by rw [h5]; rfl
            clear h1 h3 h4 h5
            go_wp2
            go_round
            case rel => exact ⟨k + 1, hlt, by go_num, HN.out⟩
            case measure => simp [intOf]; omega
          · have HX := Lib.hid (HBAD.out (by unfold okB; rw [decide_eq_false h1, decide_eq_false h4, decide_eq_false h5]; simp))
            have f0 : decide ((97 : Int) ≤ (c : Int)) = false := decide_eq_false (by omega)
            have f1 : decide ((48 : Int) ≤ (c : Int)) = true := decide_eq_true (by omega)
            have f2 : decide ((c : Int) ≤ 57) = false := decide_eq_false (by omega)
            have f4 : ((c : Int) == 95) = false := by rw [beq_eq_false_iff_ne]; omega
            obtain rfl : false = V := by rw [← HV3.out, HX.out]
            clear h1 h3 h4 h5
            go_wp2
            go_ret
            exact ⟨rfl, rfl⟩
      · have HX := Lib.hid (HBAD.out (by unfold okB; rw [decide_eq_false h1, decide_eq_false h3, decide_eq_false (show ¬ c = 95 by omega)]; simp))
        have f0 : decide ((97 : Int) ≤ (c : Int)) = false := decide_eq_false (by omega)
        have f1 : decide ((48 : Int) ≤ (c : Int)) = false := decide_eq_false (by omega)
        have f4 : ((c : Int) == 95) = false := by rw [beq_eq_false_iff_ne]; omega
        obtain rfl : false = V := by rw [← HV3.out, HX.out]
        clear h1 h3
        go_wp2
        go_ret
        exact ⟨rfl, rfl⟩
    · obtain rfl : k = s.size := by omega
      obtain rfl : true = V := by rw [← HV3.out, bytesOk_good HZ.out]
      go_wp2
      go_ret
      exact ⟨rfl, rfl⟩
end Go.Proofs.YtkfmmiekajgdjaaGreat