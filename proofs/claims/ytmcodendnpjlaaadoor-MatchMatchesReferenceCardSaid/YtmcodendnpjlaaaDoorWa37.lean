/- Chapter 37: passes in memory; valid. -/
import Derived.Test.YtmcodendnpjlaaaDoorSl
import Derived.Test.YtmcodendnpjlaaaDoorWc36
namespace Go.Proofs.YtmcodendnpjlaaaDoor
open Go.RowKit
attribute [local go_sem] Oper.semAt_some

structure Ps where
  s : ByteArray
  mn : Int
def Ps.zero : Ps := ⟨ByteArray.empty, 0⟩
/-- The cells of a slice of passes. -/
def Pss (w : World) (o : Option Addr) (l : List Ps) : Prop :=
  ∀ i, i < l.length → ∃ b off, o = some ⟨b, off, none⟩ ∧ w.cell? ⟨b, off + i * 2, none⟩ = some (.string (l.getD i Ps.zero).s) ∧ w.cell? ⟨b, off + i * 2 + 1, none⟩ = some (.int .i64 (l.getD i Ps.zero).mn)
theorem Pss.later {w w' : World} {o : Option Addr} {l : List Ps} (h : Pss w o l) (hb : Below w.heap.size w w') : Pss w' o l := fun i hi => by
  obtain ⟨b, off, h1, h2, h3⟩ := h i hi
  exact ⟨b, off, h1, cell_kept hb h2, cell_kept hb h3⟩
def validFrom : Int → List Ps → Bool
  | _, [] => true
  | before, p :: l => (validS p.s && !decide (p.mn < before) && !decide (52560000 < p.mn)) && validFrom p.mn l
def validP (l : List Ps) : Bool := decide (l.length ≤ 8) && validFrom 0 l
theorem dropP {l : List Ps} {k : Nat} (h : k < l.length) : l.drop k = l.getD k Ps.zero :: l.drop (k + 1) := by
  rw [List.drop_eq_getElem_cons h]
  simp [h]
theorem boxP (w : World) (t : TypeId) (a b : Value) : Below w.heap.size w (w.alloc (.cells #[a, b] t)) ∧ (w.alloc (.cells #[a, b] t)).cell? ⟨w.heap.size, 0, none⟩ = some a ∧ (w.alloc (.cells #[a, b] t)).cell? ⟨w.heap.size, 1, none⟩ = some b :=
  ⟨below_alloc (Below.refl _ _) _, (Blk.new w t #[a, b]).cell 0, (Blk.new w t #[a, b]).cell 1⟩

set_option maxRecDepth 100000 in
set_option maxHeartbeats 8000000 in
theorem valid_any (o : Option Addr) (cap : Nat) (l : List Ps) (w : World) (hr : Pss w o l) (hl : l.length ≤ 9000000000000000000) : Calls Tryd.prog 25 #[.slice o l.length cap] w (Ret (.bool (validP l)) w) := by
  have HP := Lib.hid hr
  clear hr
  obtain ⟨V, hV⟩ : ∃ V, validP l = V := ⟨_, rfl⟩
  rw [hV]
  have HV := Lib.hid hV
  clear hV
  go_enter Tryd.func25, Tryd.ntmps25
  by_cases h8 : l.length ≤ 8
  rotate_left
  · have hd : decide ((8 : Int) < (l.length : Int)) = true := by rw [decide_eq_true_eq]; omega
    obtain rfl : false = V := by rw [← HV.out]; simp [validP]; omega
    clear h8
    go_wp2
    go_ret
    exact ⟨rfl, Below.refl _ _⟩
  have HI := Lib.hid (show validFrom 0 (l.drop 0) = V by rw [← HV.out, List.drop_zero]; simp [validP, h8])
  go_wp2
  go_loopw [3, 11] (fun b i wr => ∃ (k : Nat) (B : Int), k ≤ l.length ∧ i = .int .i64 k ∧ b = .int .i64 B ∧ validFrom B (l.drop k) = V ∧ Below w.heap.size w wr) (fun _ i _ => l.length - (intOf i).toNat)
  case atStart => exact ⟨0, 0, Nat.zero_le _, rfl, rfl, HI.out, Below.refl _ _⟩
  case round =>
    obtain ⟨k, B, hk, rfl, rfl, hz, hb⟩ := hrel
    have HZ := Lib.hid hz
    have HB := Lib.hid hb
    clear hz hb HI
    by_cases hlt : k < l.length
    · obtain ⟨g, off, hgo, c0, c1⟩ := (HP.out.later HB.out) k hlt
      subst hgo
      have HE := Lib.hid (show ((validS (l.getD k Ps.zero).s && !decide ((l.getD k Ps.zero).mn < B) && !decide (52560000 < (l.getD k Ps.zero).mn)) && validFrom (l.getD k Ps.zero).mn (l.drop (k + 1))) = V by rw [← HZ.out, dropP hlt]; rfl)
      obtain ⟨p, hp⟩ : ∃ p, l.getD k Ps.zero = p := ⟨_, rfl⟩
      rw [hp] at c0 c1 HE
      clear hp
      have y1 : (0 : Int) ≤ (k : Int) := by omega
      have y2 : (k : Int) < (l.length : Int) := by omega
      have HBX := Lib.hid (boxP wr 35 (.string p.s) (.int .i64 p.mn))
      go_wp2_with fail
      refine (Valid_any p.s _).mono ?_
      rintro e x ⟨rfl, hb⟩
      have HB2 := Lib.hid (below_step (below_step HB.out HBX.out.1) hb)
      have d1 := cell_kept hb HBX.out.2.2
      clear hb HBX c0 c1
      obtain ⟨q, hq⟩ : ∃ q, validS p.s = q := ⟨_, rfl⟩
      rw [hq] at HE ⊢
      clear hq
      cases q with
      | false =>
        obtain rfl : false = V := by rw [← HE.out]; rfl
        go_wp2
        go_ret
        exact ⟨rfl, HB2.out⟩
      | true =>
        by_cases h1 : p.mn < B
        · have hd : decide (p.mn < B) = true := decide_eq_true h1
          obtain rfl : false = V := by rw [← HE.out, hd]; simp
          go_wp2
          go_ret
          exact ⟨rfl, HB2.out⟩
        have hd1 : decide (p.mn < B) = false := decide_eq_false h1
        by_cases h2 : 52560000 < p.mn
        · have hd : decide ((52560000 : Int) < p.mn) = true := decide_eq_true h2
          obtain rfl : false = V := by rw [← HE.out, hd]; simp
          go_wp2
          go_ret
          exact ⟨rfl, HB2.out⟩
        have hd2 : decide ((52560000 : Int) < p.mn) = false := decide_eq_false h2
        have HN := Lib.hid (show validFrom p.mn (l.drop (k + 1)) = V by rw [← HE.out, hd1, hd2]; simp)
        go_wp2
        go_roundw
        case rel => exact ⟨k + 1, p.mn, by omega, by go_num, rfl, HN.out, HB2.out⟩
        case measure => simp [intOf]; omega
    · obtain rfl : k = l.length := by omega
      obtain rfl : true = V := by rw [← HZ.out, List.drop_length]; rfl
      go_wp2
      go_ret
      exact ⟨rfl, HB.out⟩
end Go.Proofs.YtmcodendnpjlaaaDoor
