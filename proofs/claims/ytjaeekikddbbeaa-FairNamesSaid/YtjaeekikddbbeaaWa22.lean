/- Chapter 22: rows in memory; small functions. -/
import Derived.Test.YtjaeekikddbbeaaRows
import Derived.Handy
import Derived.Deep.Cut
import Derived.IntWalk
import Derived.Test.YtjaeekikddbbeaaPlainB22
import Derived.Test.YtjaeekikddbbeaaGrowN
import Derived.Test.YtjaeekikddbbeaaPhase
import Derived.Deep.QuietTactic
import Derived.BigQuiet
namespace Go.Proofs.Ytjaeekikddbbeaa
open Go.RowKit
attribute [local go_sem] Oper.semAt_some

theorem mixed : Try.prog.follows .mixedOrders = true := by kernel_rfl

def RwAt (w : World) (b q : Nat) (r : Rw) : Prop := ∃ (o : Option Addr) (cap : Nat), r.ms.length ≤ 9000000000000000000 ∧ r.ms.length ≤ cap ∧ Ints w o r.ms ∧ w.cell? ⟨b, q, none⟩ = some (.int .i64 r.c) ∧ w.cell? ⟨b, q + 1, none⟩ = some (.slice o r.ms.length cap)
def Rws (w : World) (o : Option Addr) (l : List Rw) : Prop := ∀ i, i < l.length → ∃ b off, o = some ⟨b, off, none⟩ ∧ RwAt w b (off + i * 2) (getW l i)
theorem Rws.later {w w' : World} {o : Option Addr} {l : List Rw} (h : Rws w o l) (hb : Below w.heap.size w w') : Rws w' o l := fun i hi => by
  obtain ⟨b, off, ho, oo, cp, h1, h2, h3, c0, c1⟩ := h i hi
  exact ⟨b, off, ho, oo, cp, h1, h2, h3.later hb, cell_kept hb c0, cell_kept hb c1⟩
@[reducible] def rwV (r : Rw) (o : Option Addr) (cap : Nat) : Value := .agg #[.int .i64 r.c, .slice o r.ms.length cap]
theorem dropI {l : List Int} {k : Nat} (h : k < l.length) : l.drop k = l.getD k 0 :: l.drop (k + 1) := by
  rw [List.drop_eq_getElem_cons h]
  simp [h]
theorem dropW {l : List Rw} {k : Nat} (h : k < l.length) : l.drop k = getW l k :: l.drop (k + 1) := by
  rw [List.drop_eq_getElem_cons h]
  simp [getW, h]
/-- A struct of two cells, boxed by a call at its beginning. -/
theorem box2 (w : World) (t : TypeId) (a b : Value) : Below w.heap.size w (w.alloc (.cells #[a, b] t)) ∧ (w.alloc (.cells #[a, b] t)).cell? ⟨w.heap.size, 0, none⟩ = some a ∧ (w.alloc (.cells #[a, b] t)).cell? ⟨w.heap.size, 1, none⟩ = some b :=
  ⟨below_alloc (Below.refl _ _) _, (Blk.new w t #[a, b]).cell 0, (Blk.new w t #[a, b]).cell 1⟩

set_option maxHeartbeats 4000000 in
theorem validRow_any (r : Rw) (o : Option Addr) (cap : Nat) (n : Int) (w : World) (hr : Ints w o r.ms) (hl : r.ms.length ≤ 9000000000000000000) : Calls Try.prog 27 #[rwV r o cap, .int .i64 n] w (Ret (.bool (validRw n r)) w) := by
  have HR := Lib.hid (hr.later (box2 w 34 (.int .i64 r.c) (.slice o r.ms.length cap)).1)
  have HB := Lib.hid (box2 w 34 (.int .i64 r.c) (.slice o r.ms.length cap)).1
  obtain ⟨V, hV⟩ : ∃ V, validRw n r = V := ⟨_, rfl⟩
  rw [hV]
  have HV := Lib.hid hV
  clear hr hV
  by_cases h1 : r.c < 0
  · obtain rfl : V = false := by rw [← HV.out, validRw, decide_eq_false (by omega)]; rfl
    have h1d : decide (r.c < 0) = true := by simpa using h1
    go_enter Try.func27, Try.ntmps27
    go_wp2
    go_ret
    exact ⟨rfl, HB.out⟩
  have h1d : decide (r.c < 0) = false := by simpa using h1
  by_cases h2 : 1000000 < r.c
  · obtain rfl : V = false := by rw [← HV.out, validRw, decide_eq_false (by omega)]; rfl
    have h2d : decide (1000000 < r.c) = true := by simpa using h2
    go_enter Try.func27, Try.ntmps27
    go_wp2
    go_ret
    exact ⟨rfl, HB.out⟩
  have h2d : decide (1000000 < r.c) = false := by simpa using h2
  have HI := Lib.hid (show incOk n (-1) (r.ms.drop 0) = V by rw [← HV.out, validRw, decide_eq_true (show 0 ≤ r.c ∧ r.c ≤ 1000000 by omega)]; simp)
  clear HV
  go_enter Try.func27, Try.ntmps27
  go_wp2
  go_loop [5, 19] (fun b i => ∃ (k : Nat) (p : Int), k ≤ r.ms.length ∧ i = .int .i64 k ∧ b = .int .i64 p ∧ incOk n p (r.ms.drop k) = V) (fun _ i => r.ms.length - (intOf i).toNat)
  case atStart => exact ⟨0, -1, Nat.zero_le _, rfl, rfl, HI.out⟩
  case round =>
    obtain ⟨k, p, hk, rfl, rfl, hz⟩ := hrel
    have HZ := Lib.hid hz
    clear hz HI
    by_cases hlt : k < r.ms.length
    · obtain ⟨g, off, hgo, c0⟩ := HR.out k hlt
      subst hgo
      have HD := Lib.hid (dropI hlt)
      obtain ⟨m, hm⟩ : ∃ m, r.ms.getD k 0 = m := ⟨_, rfl⟩
      rw [hm] at c0 HD
      clear hm
      have HE := Lib.hid (show (decide (p < m) && decide (m < n) && incOk n m (r.ms.drop (k + 1))) = V by rw [← HZ.out, HD.out]; rfl)
      have y1 : (0 : Int) ≤ (k : Int) := by omega
      have y2 : (k : Int) < (r.ms.length : Int) := by omega
      by_cases h3 : m ≤ p
      · obtain rfl : V = false := by rw [← HE.out, decide_eq_false (by omega)]; rfl
        have h3d : decide (m ≤ p) = true := by simpa using h3
        go_wp2
        go_ret
        exact ⟨rfl, HB.out⟩
      have h3d : decide (m ≤ p) = false := by simpa using h3
      by_cases h4 : n ≤ m
      · obtain rfl : V = false := by rw [← HE.out, decide_eq_false (show ¬ m < n by omega)]; simp
        have h4d : decide (n ≤ m) = true := by simpa using h4
        go_wp2
        go_ret
        exact ⟨rfl, HB.out⟩
      have h4d : decide (n ≤ m) = false := by simpa using h4
      have HN := Lib.hid (show incOk n m (r.ms.drop (k + 1)) = V by rw [← HE.out, decide_eq_true (show p < m by omega), decide_eq_true (show m < n by omega)]; simp)
      go_wp2
      go_round
      case rel => exact ⟨k + 1, m, by omega, by go_num, rfl, HN.out⟩
      case measure => simp [intOf]; omega
    · obtain rfl : k = r.ms.length := by omega
      obtain rfl : V = true := by rw [← HZ.out, List.drop_length]; rfl
      go_wp2
      go_ret
      exact ⟨rfl, HB.out⟩
end Go.Proofs.Ytjaeekikddbbeaa
