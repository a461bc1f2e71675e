/- Package bill: Valid. -/
import Derived.Test.YtkfmmiekajgdjaaGreatWz43
namespace Go.Proofs.YtkfmmiekajgdjaaGreat
open Go.RowKit
attribute [local go_sem] Oper.semAt_some

def oneB (e b : Int) (x : Int × Int) : Bool := !decide (x.1 ≤ b) && (!decide (e ≤ x.1) && (!decide (x.2 < 0) && !decide (10000 < x.2)))
def slsB (e : Int) : Int → List (Int × Int) → Bool
  | _, [] => true
  | b, x :: l => oneB e b x && slsB e x.1 l
def ses1 (s : SesA) : Bool := !decide (s.f < 0) && (!decide (s.t ≤ s.f) && (!decide (2880 < s.t - s.f) && !decide (52560000 < s.t)))
def ses2 (s : SesA) : Bool := !decide (s.e < s.f) && (!decide (s.t < s.e) && !decide (48 < s.l.length))
def sesB (s : SesA) : Bool := ses1 s && (ses2 s && slsB s.e (s.f - 1) s.l)
theorem slsB_all {e : Int} : ∀ {l : List (Int × Int)} {b : Int}, slsB e b l = true → ∀ x ∈ l, b < x.1 ∧ x.1 < e ∧ 0 ≤ x.2 ∧ x.2 ≤ 10000
  | [], _, _, x, hx => by cases hx
  | y :: l, b, h, x, hx => by
    have h1 : oneB e b y = true ∧ slsB e y.1 l = true := by
      have : (oneB e b y && slsB e y.1 l) = true := h
      simpa using this
    have hy : b < y.1 ∧ y.1 < e ∧ 0 ≤ y.2 ∧ y.2 ≤ 10000 := by
      have := h1.1
      unfold oneB at this
      simp at this
      omega
    rcases List.mem_cons.1 hx with rfl | hx
    · exact hy
    · have := slsB_all h1.2 x hx
      omega
theorem sesB_ok {s : SesA} (h : sesB s = true) : SesOk s := by
  unfold sesB ses1 ses2 at h
  simp only [Bool.and_eq_true, Bool.not_eq_true', decide_eq_false_iff_not] at h
  obtain ⟨⟨h1, h2, h3, h4⟩, ⟨h5, h6, h7⟩, h8⟩ := h
  exact ⟨by omega, by omega, by omega, by omega, by omega, by omega, by omega, fun x hx => by have := slsB_all h8 x hx; omega⟩

set_option maxRecDepth 100000 in
set_option maxHeartbeats 16000000 in
theorem billValid_any (s : SesA) (w : World) (h : Twos w s.o s.l) (hl : s.l.length ≤ 9000000000000000000) (ht : s.t ≤ 9223372036854775807) : Calls Tryz.prog 41 #[.agg #[.int .i64 s.f, .int .i64 s.t, .int .i64 s.e, .slice s.o s.l.length s.cap]] w (Ret (.bool (sesB s)) w) := by
  have HX := Lib.hid h
  clear h
  obtain ⟨V, hV⟩ : ∃ V, sesB s = V := ⟨_, rfl⟩
  rw [hV]
  have HV := Lib.hid (show ((!decide (s.f < 0) && (!decide (s.t ≤ s.f) && (!decide (2880 < s.t - s.f) && !decide (52560000 < s.t)))) && ((!decide (s.e < s.f) && (!decide (s.t < s.e) && !decide (48 < s.l.length))) && slsB s.e (s.f - 1) s.l)) = V from hV)
  clear hV
  go_enter Tryz.func41, Tryz.ntmps41
  go_upto_region 1 with (fail)
  obtain ⟨W1, hW1⟩ : ∃ W1, W1 = w.alloc (.cells #[.int .i64 s.f, .int .i64 s.t, .int .i64 s.e, .slice s.o s.l.length s.cap] 35) := ⟨_, rfl⟩
  have HQ := Lib.hid (show Blk W1 w.heap.size 35 #[.int .i64 s.f, .int .i64 s.t, .int .i64 s.e, .slice s.o s.l.length s.cap] by rw [hW1]; exact Blk.new _ _ _)
  have HB := Lib.hid (show Below w.heap.size w W1 by rw [hW1]; exact below_alloc (Below.refl _ _) _)
  try rw [← hW1]
  clear hW1
  replace HX := Lib.hid (HX.out.later HB.out)
  obtain ⟨Q, hQ⟩ : ∃ B, w.heap.size = B := ⟨_, rfl⟩
  rw [hQ] at HQ ⊢
  clear hQ
  have q0 : W1.cell? ⟨Q, 0, none⟩ = some (.int .i64 s.f) := HQ.out.cell 0
  have q1 : W1.cell? ⟨Q, 1, none⟩ = some (.int .i64 s.t) := HQ.out.cell 1
  have q2 : W1.cell? ⟨Q, 2, none⟩ = some (.int .i64 s.e) := HQ.out.cell 2
  have q3 : W1.cell? ⟨Q, 3, none⟩ = some (.slice s.o s.l.length s.cap) := HQ.out.cell 3
  by_cases h1 : s.f < 0
  · have dh1 : decide (s.f < 0) = true := decide_eq_true h1
    obtain rfl : false = V := by rw [← HV.out, dh1]; rfl
    clear h1 
    go_wp2
    go_ret
    exact ⟨rfl, HB.out⟩
  have dh1 : decide (s.f < 0) = false := decide_eq_false h1
  by_cases h2 : s.t ≤ s.f
  · have dh2 : decide (s.t ≤ s.f) = true := decide_eq_true h2
    obtain rfl : false = V := by rw [← HV.out, dh2, dh1]; rfl
    clear h2 h1
    go_wp2
    go_ret
    exact ⟨rfl, HB.out⟩
  have dh2 : decide (s.t ≤ s.f) = false := decide_eq_false h2
  have hsw : IntKind.i64.wrap (s.t - s.f) = s.t - s.f := IntWalk.i64_in _ (by omega)
  by_cases h3 : 2880 < s.t - s.f
  · have dh3 : decide (2880 < s.t - s.f) = true := decide_eq_true h3
    obtain rfl : false = V := by rw [← HV.out, dh3, dh1, dh2]; rfl
    clear h3 h1 h2
    go_wp2
    go_ret
    exact ⟨rfl, HB.out⟩
  have dh3 : decide (2880 < s.t - s.f) = false := decide_eq_false h3
  by_cases h4 : 52560000 < s.t
  · have dh4 : decide (52560000 < s.t) = true := decide_eq_true h4
    obtain rfl : false = V := by rw [← HV.out, dh4, dh1, dh2, dh3]; rfl
    clear h4 h1 h2 h3
    go_wp2
    go_ret
    exact ⟨rfl, HB.out⟩
  have dh4 : decide (52560000 < s.t) = false := decide_eq_false h4
  replace HV := Lib.hid (show ((!decide (s.e < s.f) && (!decide (s.t < s.e) && !decide (48 < s.l.length))) && slsB s.e (s.f - 1) s.l) = V by rw [← HV.out, dh1, dh2, dh3, dh4]; rfl)
  by_cases h5 : s.e < s.f
  · have dh5 : decide (s.e < s.f) = true := decide_eq_true h5
    obtain rfl : false = V := by rw [← HV.out, dh5]; rfl
    clear h5 
    go_wp2
    go_ret
    exact ⟨rfl, HB.out⟩
  have dh5 : decide (s.e < s.f) = false := decide_eq_false h5
  by_cases h6 : s.t < s.e
  · have dh6 : decide (s.t < s.e) = true := decide_eq_true h6
    obtain rfl : false = V := by rw [← HV.out, dh6, dh5]; rfl
    clear h6 h5
    go_wp2
    go_ret
    exact ⟨rfl, HB.out⟩
  have dh6 : decide (s.t < s.e) = false := decide_eq_false h6
  by_cases h7 : 48 < s.l.length
  · have dh7 : decide (48 < s.l.length) = true := decide_eq_true h7
    obtain rfl : false = V := by rw [← HV.out, dh7, dh5, dh6]; rfl
    have dh8 : decide ((48 : Int) < (s.l.length : Int)) = true := decide_eq_true (by omega)
    clear  h5 h6
    go_wp2
    go_ret
    exact ⟨rfl, HB.out⟩
  have dh7 : decide (48 < s.l.length) = false := decide_eq_false h7
  have dh8 : decide ((48 : Int) < (s.l.length : Int)) = false := decide_eq_false (by omega)
  replace HV := Lib.hid (show slsB s.e (s.f - 1) s.l = V by rw [← HV.out, dh5, dh6, dh7]; rfl)
  have hf0 : 0 ≤ s.f := by omega
  have hf1 : s.f ≤ 52560000 := by omega
  have hl48 : s.l.length ≤ 48 := by omega
  have hw1 : IntKind.i64.wrap (s.f - 1) = s.f - 1 := IntWalk.i64_in _ (by omega)
  go_upto_region 7 with (fail)
  clear dh1 dh2 dh3 dh4 dh5 dh6 dh7 dh8 h1 h2 h3 h4 h5 h6 h7 hsw
  try go_wp2
  go_loopw [3, 53] (fun v i wr => ∃ (k : Nat) (b : Int), k ≤ s.l.length ∧ i = .int .i64 k ∧ v = .int .i64 b ∧ slsB s.e b (s.l.drop k) = V ∧ Below W1.heap.size W1 wr) (fun _ i _ => s.l.length - (intOf i).toNat)
  case atStart => exact ⟨0, _, Nat.zero_le _, rfl, rfl, by rw [List.drop_zero]; exact HV.out, Below.refl _ _⟩
  case round =>
    obtain ⟨k, b, hk, rfl, rfl, hz, hbw⟩ := hrel
    obtain ⟨wA, rfl⟩ : ∃ wA : World, wA = wr := ⟨_, rfl⟩
    have HZ := Lib.hid hz
    have HBW := Lib.hid hbw
    clear hz hbw
    by_cases hlt : k < s.l.length
    · obtain ⟨gx, fx, hgo, x0, x1⟩ := (HX.out.later HBW.out) k hlt
      replace HZ := Lib.hid (show (oneB s.e b (s.l.getD k (0, 0)) && slsB s.e (s.l.getD k (0, 0)).1 (s.l.drop (k + 1))) = V by have := HZ.out; rw [dropTA hlt] at this; exact this)
      obtain ⟨x, hx⟩ : ∃ x, s.l.getD k (0, 0) = x := ⟨_, rfl⟩
      rw [hx] at x0 x1 HZ
      clear hx
      rw [hgo]
      have y1 : (0 : Int) ≤ (k : Int) := by omega
      have y2 : (k : Int) < (s.l.length : Int) := by omega
      have e2 : wA.cell? ⟨Q, 2, none⟩ = some (.int .i64 s.e) := cell_kept HBW.out q2
      have e2' : ∀ o, (wA.alloc o).cell? ⟨Q, 2, none⟩ = some (.int .i64 s.e) := fun o => cell_kept (below_alloc (Below.refl _ _) o) e2
      replace HZ := Lib.hid (show ((!decide (x.1 ≤ b) && (!decide (s.e ≤ x.1) && (!decide (x.2 < 0) && !decide (10000 < x.2)))) && slsB s.e x.1 (s.l.drop (k + 1))) = V from HZ.out)
      by_cases k1 : x.1 ≤ b
      · have dk1 : decide (x.1 ≤ b) = true := decide_eq_true k1
        obtain rfl : false = V := by rw [← HZ.out, dk1]; rfl
        clear k1 
        go_wp2
        go_ret
        exact ⟨rfl, below_step HB.out (below_alloc HBW.out _)⟩
      have dk1 : decide (x.1 ≤ b) = false := decide_eq_false k1
      by_cases k2 : s.e ≤ x.1
      · have dk2 : decide (s.e ≤ x.1) = true := decide_eq_true k2
        obtain rfl : false = V := by rw [← HZ.out, dk2, dk1]; rfl
        clear k2 k1
        go_wp2
        go_ret
        exact ⟨rfl, below_step HB.out (below_alloc HBW.out _)⟩
      have dk2 : decide (s.e ≤ x.1) = false := decide_eq_false k2
      by_cases k3 : x.2 < 0
      · have dk3 : decide (x.2 < 0) = true := decide_eq_true k3
        obtain rfl : false = V := by rw [← HZ.out, dk3, dk1, dk2]; rfl
        clear k3 k1 k2
        go_wp2
        go_ret
        exact ⟨rfl, below_step HB.out (below_alloc HBW.out _)⟩
      have dk3 : decide (x.2 < 0) = false := decide_eq_false k3
      by_cases k4 : 10000 < x.2
      · have dk4 : decide (10000 < x.2) = true := decide_eq_true k4
        obtain rfl : false = V := by rw [← HZ.out, dk4, dk1, dk2, dk3]; rfl
        clear k4 k1 k2 k3
        go_wp2
        go_ret
        exact ⟨rfl, below_step HB.out (below_alloc HBW.out _)⟩
      have dk4 : decide (10000 < x.2) = false := decide_eq_false k4
      have HN := Lib.hid (show slsB s.e x.1 (s.l.drop (k + 1)) = V by rw [← HZ.out, dk1, dk2, dk3, dk4]; rfl)
      clear k1 k2 k3 k4
      go_wp2
      go_roundw
      case rel => exact ⟨k + 1, x.1, hlt, by go_num, rfl, HN.out, below_alloc HBW.out _⟩
      case measure => simp [intOf]; omega
    · obtain rfl : k = s.l.length := by omega
      obtain rfl : true = V := by rw [← HZ.out, List.drop_length]; rfl
      go_wp2
      go_ret
      exact ⟨rfl, below_step HB.out HBW.out⟩
end Go.Proofs.YtkfmmiekajgdjaaGreat