/- chargeparklaw36.edited and PlateEdits. -/
import Derived.Test.YtnjgmlehcolofaaDoorWi36
import Derived.Deep.RegionWith
import Derived.Deep.QuietTactic
import Derived.BigQuiet
namespace Go.Proofs.YtnjgmlehcolofaaDoor
open Go.RowKit

set_option maxHeartbeats 1000000 in
theorem Twin_same (c : Nat) (w : World) : Calls Tryd.prog 21 #[.int .u8 c] w (fun e w' => e = .returned (.int .u8 (twin c : Nat)) ∧ w = w') := by
  have hl := sizeL
  have hr := sizeR
  go_enter Tryd.func21, Tryd.ntmps21
  go_wp2
  rw [show ({ data := #[79, 73, 66, 83, 90, 48, 49, 56, 53, 50] } : ByteArray) = sL from rfl, show ({ data := #[48, 49, 56, 53, 50, 79, 73, 66, 83, 90] } : ByteArray) = sR from rfl]
  go_loop [5] (fun i => ∃ k : Nat, k ≤ 10 ∧ i = .int .i64 k ∧ noneBefore c k) (fun i => 10 - (intOf i).toNat)
  case atStart => exact ⟨0, by omega, rfl, fun j _ h => absurd h (by omega)⟩
  case round =>
    obtain ⟨k, hk, rfl, hn⟩ := hrel
    have HN := Lib.hid hn
    clear hn
    by_cases hp : k < 10
    · by_cases he : (sL[k]'hp).toNat = c
      · have HV := Lib.hid (pairs_at k hp).1
        have he' : (((sL[k]'hp).toNat : Int) == (c : Int)) = true := by simp [he]
        have HE := Lib.hid he
        clear he
        go_wp2
        go_ret
        exact ⟨ret_int (by rw [← HE.out, HV.out]; rfl), rfl⟩
      · have he' : (((sL[k]'hp).toNat : Int) == (c : Int)) = false := by simp; omega
        have HE := Lib.hid he
        clear he
        go_wp2
        go_round
        case rel => exact ⟨k + 1, by omega, by go_num, fun j hj hlt => if e : j = k then by subst e; exact HE.out else HN.out j hj (by omega)⟩
        case measure => simp [intOf]; omega
    · have HV := Lib.hid (pairs_all c (fun j hj => HN.out j hj (by omega)))
      go_wp2
      go_ret
      exact ⟨ret_int (by rw [HV.out]; rfl), rfl⟩


set_option maxHeartbeats 400000 in
theorem Cost_same (a b : Nat) (w : World) : Calls Tryd.prog 20 #[.int .u8 a, .int .u8 b] w (fun e w' => e = .returned (.int .i64 (rcost a b : Nat)) ∧ w = w') := by
  by_cases e : a = b
  · subst e
    have HV := Lib.hid (show rcost a a = 0 by simp [rcost])
    go_enter Tryd.func20, Tryd.ntmps20
    go_wp2
    go_ret
    exact ⟨ret_int (by rw [HV.out]; rfl), rfl⟩
  · have e' : ((a : Int) == (b : Int)) = false := by simp; omega
    by_cases h : twin a = b
    · have HV := Lib.hid (show rcost a b = 1 by simp [rcost, e, h])
      have h' : ((twin a : Int) == (b : Int)) = true := by simp [h]
      clear e h
      go_enter Tryd.func20, Tryd.ntmps20
      go_wp2_with fail
      refine (Twin_same a w).mono ?_
      rintro e w' ⟨rfl, rfl⟩
      go_wp2
      go_ret
      exact ⟨ret_int (by rw [HV.out]; rfl), rfl⟩
    · have HV := Lib.hid (show rcost a b = 2 by simp [rcost, e, h])
      have h' : ((twin a : Int) == (b : Int)) = false := by simp; omega
      clear e h
      go_enter Tryd.func20, Tryd.ntmps20
      go_wp2_with fail
      refine (Twin_same a w).mono ?_
      rintro e w' ⟨rfl, rfl⟩
      go_wp2
      go_ret
      exact ⟨ret_int (by rw [HV.out]; rfl), rfl⟩


/-- A text of one byte. -/
def oneS (c : Int) : ByteArray := strOfNums [c]

set_option maxHeartbeats 1000000 in
theorem edited_del (s : ByteArray) (at' kind : Nat) (c : Int) (k : Nat) (w : World) (h1 : 1 ≤ s.size) (h2 : s.size ≤ 10) (hk : (at' : Int) % (s.size : Int) = (k : Int)) (hkl : k < s.size) (hm : (kind : Int) % 3 = 0) :
    Calls Tryd.prog 15 #[.string s, .int .i64 (at' : Int), .int .i64 (kind : Int), .int .u8 c] w (Ret (.tuple #[.string (s.extract 0 k ++ s.extract (k + 1) s.size), .int .i64 2]) w) := by
  have y0 : (1 : Int) ≤ (s.size : Int) := by omega
  go_enter Tryd.func15, Tryd.ntmps15
  go_wp2
  have x1 : IntKind.i64.wrap ((k : Int) + 1) = (k : Int) + 1 := IntWalk.i64_in _ (by omega)
  have y1 : (k : Int) ≤ (s.size : Int) := by omega
  have y2 : (k : Int) + 1 ≤ (s.size : Int) := by omega
  have y3 : 0 ≤ (k : Int) + 1 := by omega
  have y4 : ((k : Int) + 1).toNat = k + 1 := by omega
  go_quiet (fail)
  go_wp2
  go_ret2
  exact ⟨rfl, below_drewN (Below.refl _ _) _⟩

theorem one_cell {c : Int} {g : Nat} {w : World} (h : w.cell? ⟨g, 0, none⟩ = some (.int .u8 c)) : ∀ i, i < 1 → w.cell? ⟨g, 0 + i, none⟩ = some (.int .u8 ([c].getD i 0)) := by
  intro i hi
  obtain rfl : i = 0 := by omega
  exact h

theorem conv_one (c : Int) (g : Nat) (w : World) (h : w.cell? ⟨g, 0, none⟩ = some (.int .u8 c)) : (convert 43 9 (.slice (some ⟨g, 0, none⟩) 1 1)).run Tryd.prog w = .ok (.string (oneS c)) w :=
  run_convert_bytes_arg w 43 5 Tryd.underlying43 Tryd.underlying5 g 0 1 1 [c] rfl (one_cell h) 9 Tryd.underlying9

theorem oneS_size (c : Int) : (oneS c).size = 1 := by simp [oneS, strOfNums_size]

set_option maxHeartbeats 2000000 in
theorem edited_ins (s : ByteArray) (at' kind : Nat) (c : Int) (k : Nat) (w : World) (h1 : 1 ≤ s.size) (h2 : s.size ≤ 10) (hk : (at' : Int) % (s.size : Int) = (k : Int)) (hkl : k < s.size) (hm : (kind : Int) % 3 = 1) :
    Calls Tryd.prog 15 #[.string s, .int .i64 (at' : Int), .int .i64 (kind : Int), .int .u8 c] w (Ret (.tuple #[.string (s.extract 0 k ++ oneS c ++ s.extract k s.size), .int .i64 2]) w) := by
  have y0 : (1 : Int) ≤ (s.size : Int) := by omega
  have hos := oneS_size c
  go_enter Tryd.func15, Tryd.ntmps15
  go_wp2
  have y1 : (k : Int) ≤ (s.size : Int) := by omega
  have hcv := fun W : World => fun g : Nat => fun h => conv_one c g W h
  go_region
  go_wp2
  go_ret2
  exact ⟨rfl, below_alloc (Below.refl _ _).drew _⟩

set_option maxHeartbeats 2000000 in
theorem edited_rep (s : ByteArray) (at' kind : Nat) (c : Nat) (k : Nat) (w : World) (h1 : 1 ≤ s.size) (h2 : s.size ≤ 10) (hk : (at' : Int) % (s.size : Int) = (k : Int)) (hkl : k < s.size) (hm : (kind : Int) % 3 = 2) :
    Calls Tryd.prog 15 #[.string s, .int .i64 (at' : Int), .int .i64 (kind : Int), .int .u8 (c : Int)] w (Ret (.tuple #[.string (s.extract 0 k ++ oneS c ++ s.extract (k + 1) s.size), .int .i64 (rcost (s[k]'hkl).toNat c : Nat)]) w) := by
  have y0 : (1 : Int) ≤ (s.size : Int) := by omega
  have hos := oneS_size c
  have m0 : ((kind : Int) % 3 == 0) = false := by simp; omega
  have m1 : ((kind : Int) % 3 == 1) = false := by simp; omega
  have HM := Lib.hid hm
  clear hm
  go_enter Tryd.func15, Tryd.ntmps15
  go_wp2
  have x1 : IntKind.i64.wrap ((k : Int) + 1) = (k : Int) + 1 := IntWalk.i64_in _ (by omega)
  have y1 : (k : Int) ≤ (s.size : Int) := by omega
  have y2 : (k : Int) + 1 ≤ (s.size : Int) := by omega
  have y3 : 0 ≤ (k : Int) + 1 := by omega
  have y4 : ((k : Int) + 1).toNat = k + 1 := by omega
  have y5 : (k : Int) < (s.size : Int) := by omega
  have hcv := fun W : World => fun g : Nat => fun h => conv_one c g W h
  go_region_with (go_at_call 20; refine (Cost_same _ c _).mono ?_; rintro e w' ⟨rfl, rfl⟩)
  all_goals go_wp2
  all_goals go_ret2
  all_goals exact ⟨rfl, below_alloc (Below.refl _ _).drew _⟩

end Go.Proofs.YtnjgmlehcolofaaDoor
