/- chargeparkref36.Twin and Cost, plate.replace. -/
import Derived.Test.YtmcodendnpjlaaaDoorRows
import Derived.Test.YtmcodendnpjlaaaDoorKit
import Derived.Test.YtmcodendnpjlaaaDoorPlain36
import Derived.Handy
namespace Go.Proofs.YtmcodendnpjlaaaDoor
open Go.RowKit

/-! ### chargeparkref36.Twin, Cost -/
theorem twin_lt (c : Nat) : twin c < 256 := by
  rcases Nat.eq_zero_or_pos (twin c) with h | h
  · omega
  · rcases twin_cases (by omega : twin c ≠ 0) with rfl | rfl | rfl | rfl | rfl | rfl | rfl | rfl | rfl | rfl <;> decide

def sL : ByteArray := ⟨#[79, 73, 66, 83, 90, 48, 49, 56, 53, 50]⟩
def sR : ByteArray := ⟨#[48, 49, 56, 53, 50, 79, 73, 66, 83, 90]⟩
theorem sizeL : sL.size = 10 := rfl
theorem sizeR : sR.size = 10 := rfl

theorem pairs_at : ∀ k (h : k < 10), twin (sL[k]'h).toNat = (sR[k]'h).toNat ∧ sL[k].toNat ≠ 0 := by decide
theorem pairs_all (c : Nat) (h : ∀ k (h : k < 10), (sL[k]'h).toNat ≠ c) : twin c = 0 := by
  rcases Nat.eq_zero_or_pos (twin c) with h0 | h0
  · exact h0
  · exfalso
    rcases twin_cases (by omega : twin c ≠ 0) with rfl | rfl | rfl | rfl | rfl | rfl | rfl | rfl | rfl | rfl
    · exact h 0 (by decide) rfl
    · exact h 1 (by decide) rfl
    · exact h 2 (by decide) rfl
    · exact h 3 (by decide) rfl
    · exact h 4 (by decide) rfl
    · exact h 5 (by decide) rfl
    · exact h 6 (by decide) rfl
    · exact h 7 (by decide) rfl
    · exact h 8 (by decide) rfl
    · exact h 9 (by decide) rfl

def noneBefore (c k : Nat) : Prop := ∀ j (h : j < 10), j < k → (sL[j]'h).toNat ≠ c

theorem ret_int {k : IntKind} {a b : Int} (h : a = b) : Ending.returned (.int k a) = .returned (.int k b) := by rw [h]

set_option maxHeartbeats 1000000 in
theorem Twin_any (c : Nat) (w : World) : Calls Tryd.prog 23 #[.int .u8 c] w (Ret (.int .u8 (twin c : Nat)) w) := by
  have hl := sizeL
  have hr := sizeR
  go_enter Tryd.func23, Tryd.ntmps23
  go_wp2
  rw [show ({ data := #[79, 73, 66, 83, 90, 48, 49, 56, 53, 50] } : ByteArray) = sL from rfl, show ({ data := #[48, 49, 56, 53, 50, 79, 73, 66, 83, 90] } : ByteArray) = sR from rfl]
  go_loop [5] (fun i => ∃ k : Nat, k ≤ 10 ∧ i = .int .i64 k ∧ noneBefore c k) (fun i => 10 - (intOf i).toNat)
  case atStart => exact ⟨0, by omega, rfl, fun j _ h => absurd h (by omega)⟩
  case round =>
    obtain ⟨k, hk, rfl, hn⟩ := hrel
    have HN := Lib.hid hn
    clear hn
    by_cases hp : k < 10
    · by_cases he : (sL[k]'hp).toNat = c
      · have HV := Lib.hid (pairs_at k hp).1
        have he' : (((sL[k]'hp).toNat : Int) == (c : Int)) = true := by simp [he]
        have HE := Lib.hid he
        clear he
        go_wp2
        go_ret
        exact ⟨ret_int (by rw [← HE.out, HV.out]; rfl), Below.refl _ _⟩
      · have he' : (((sL[k]'hp).toNat : Int) == (c : Int)) = false := by simp; omega
        have HE := Lib.hid he
        clear he
        go_wp2
        go_round
        case rel => exact ⟨k + 1, by omega, by go_num, fun j hj hlt => if e : j = k then by subst e; exact HE.out else HN.out j hj (by omega)⟩
        case measure => simp [intOf]; omega
    · have HV := Lib.hid (pairs_all c (fun j hj => HN.out j hj (by omega)))
      go_wp2
      go_ret
      exact ⟨ret_int (by rw [HV.out]; rfl), Below.refl _ _⟩

/-- What chargeparkref36.Cost returns. -/
def rcost (a b : Nat) : Nat := if a = b then 0 else if twin a = b then 1 else 2
theorem rcost_rc (a b : Nat) (h : b ≠ 0) : rcost a b = rc a b := by simp [rcost, rc, h]

set_option maxHeartbeats 400000 in
theorem Cost_any (a b : Nat) (w : World) : Calls Tryd.prog 37 #[.int .u8 a, .int .u8 b] w (Ret (.int .i64 (rcost a b : Nat)) w) := by
  by_cases e : a = b
  · subst e
    have HV := Lib.hid (show rcost a a = 0 by simp [rcost])
    go_enter Tryd.func37, Tryd.ntmps37
    go_wp2
    go_ret
    exact ⟨ret_int (by rw [HV.out]; rfl), Below.refl _ _⟩
  · have e' : ((a : Int) == (b : Int)) = false := by simp; omega
    by_cases h : twin a = b
    · have HV := Lib.hid (show rcost a b = 1 by simp [rcost, e, h])
      have h' : ((twin a : Int) == (b : Int)) = true := by simp [h]
      clear e h
      go_enter Tryd.func37, Tryd.ntmps37
      go_wp2_with fail
      refine (Twin_any a w).mono ?_
      rintro e w' ⟨rfl, hb⟩
      go_wp2
      go_ret
      exact ⟨ret_int (by rw [HV.out]; rfl), hb⟩
    · have HV := Lib.hid (show rcost a b = 2 by simp [rcost, e, h])
      have h' : ((twin a : Int) == (b : Int)) = false := by simp; omega
      clear e h
      go_enter Tryd.func37, Tryd.ntmps37
      go_wp2_with fail
      refine (Twin_any a w).mono ?_
      rintro e w' ⟨rfl, hb⟩
      go_wp2
      go_ret
      exact ⟨ret_int (by rw [HV.out]; rfl), hb⟩

/-! ### plate.replace -/
def tabCells : Array Value := #[.int .i32 79, .int .i32 48, .int .i32 73, .int .i32 49, .int .i32 66, .int .i32 56, .int .i32 83, .int .i32 53, .int .i32 90, .int .i32 50]
/-- The table of confusable signs lies in its variable. -/
def Tab (w : World) : Prop := 0 < w.heap.size ∧ ∃ t fr, w.heap[0]? = some (.cells tabCells t fr)
theorem Tab.below {w w' : World} (h : Tab w) (hb : Below w.heap.size w w') : Tab w' :=
  ⟨Nat.lt_of_lt_of_le h.1 hb.size, by obtain ⟨t, fr, h2⟩ := h.2; exact ⟨t, fr, (hb.block 0 h.1).trans h2⟩⟩

theorem idx0 (w : World) : (Instr.index 72 (.agg tabCells) (.int .i64 0)).run Tryd.prog w = .ok (.agg #[.int .i32 79, .int .i32 48]) w := by kernel_rfl
theorem idx1 (w : World) : (Instr.index 72 (.agg tabCells) (.int .i64 1)).run Tryd.prog w = .ok (.agg #[.int .i32 73, .int .i32 49]) w := by kernel_rfl
theorem idx2 (w : World) : (Instr.index 72 (.agg tabCells) (.int .i64 2)).run Tryd.prog w = .ok (.agg #[.int .i32 66, .int .i32 56]) w := by kernel_rfl
theorem idx3 (w : World) : (Instr.index 72 (.agg tabCells) (.int .i64 3)).run Tryd.prog w = .ok (.agg #[.int .i32 83, .int .i32 53]) w := by kernel_rfl
theorem idx4 (w : World) : (Instr.index 72 (.agg tabCells) (.int .i64 4)).run Tryd.prog w = .ok (.agg #[.int .i32 90, .int .i32 50]) w := by kernel_rfl

theorem part0 (x y : Value) (w : World) : (part 21 #[x, y] 0).run Tryd.prog w = .ok x w := by kernel_rfl
theorem part1 (x y : Value) (w : World) : (part 21 #[x, y] 1).run Tryd.prog w = .ok y w := by kernel_rfl
theorem size21 (w : World) : (sizeOf 21).run Tryd.prog w = .ok 1 w := by kernel_rfl

theorem run_equalIn_arr2 {P : Program} (d : Nat) (t e : TypeId) (x y u v : Int) (k : IntKind) (w : World) (ht : P.underlying t = some (.array 2 e)) (he : P.underlying e = some (.int k))
   (hs : (sizeOf e).run P w = .ok 1 w) (p0 : ∀ x y : Value, (part e #[x, y] 0).run P w = .ok x w) (p1 : ∀ x y : Value, (part e #[x, y] 1).run P w = .ok y w) :
   (Op.equalIn (d + 2) t (.agg #[.int k x, .int k y]) (.agg #[.int k u, .int k v])).run P w = .ok (x == u && y == v) w := by
  unfold Op.equalIn
  simp only [Sem.run_bind, run_underlying ht, Result.andThen_ok, hs]
  rw [Std.Legacy.Range.forIn_eq_forIn_range']
  simp only [Std.Legacy.Range.size]
  simp [List.range', p0, p1, run_equalIn_int w d e k k _ _ he]
  by_cases h1 : x = u
  · by_cases h2 : y = v
    · simp [h1, h2]
    · have h2' : (y == v) = false := by simpa using h2
      simp [h1, h2, h2']
  · have h1' : (x == u) = false := by simpa using h1
    simp [h1, h1']

def eq2 (x y u v : Int) : Bool := x == u && y == v
theorem run_eql45 (x y u v : Int) (w : World) : (binOp .eql 71 (.agg #[.int .i32 x, .int .i32 y]) (.agg #[.int .i32 u, .int .i32 v])).run Tryd.prog w = .ok (.bool (eq2 x y u v)) w := by
  simp only [binOp]
  simp [Op.equal, Op.maxDepth, eq2, run_equalIn_arr2 9998 71 21 x y u v .i32 w Tryd.underlying71 Tryd.underlying21 (size21 w) (fun x y => part0 x y w) (fun x y => part1 x y w)]

/-- The first pairs of the table, up to k, are not these two signs. -/
theorem eq2_false {x y a b : Nat} (h : ¬ (x = a ∧ y = b)) : eq2 x y a b = false := by
  simp only [eq2, Bool.and_eq_false_iff, beq_eq_false_iff_ne]
  omega
theorem eq2_true {x y a b : Nat} (h : x = a ∧ y = b) : eq2 x y a b = true := by
  simp [eq2, h.1, h.2]

set_option maxHeartbeats 1000000 in
theorem replace_walk (a b : Int) (w : World) (t : TypeId) (fr : Nat × Nat) (hg : w.heap[0]? = some (.cells tabCells t fr)) (h : (a == b) = false) (r : Int)
    (h1 : eq2 79 48 a b = true ∨ eq2 79 48 b a = true ∨ eq2 73 49 a b = true ∨ eq2 73 49 b a = true ∨ eq2 66 56 a b = true ∨ eq2 66 56 b a = true ∨ eq2 83 53 a b = true ∨ eq2 83 53 b a = true ∨ eq2 90 50 a b = true ∨ eq2 90 50 b a = true → r = 1)
    (h2 : eq2 79 48 a b = false → eq2 79 48 b a = false → eq2 73 49 a b = false → eq2 73 49 b a = false → eq2 66 56 a b = false → eq2 66 56 b a = false → eq2 83 53 a b = false → eq2 83 53 b a = false → eq2 90 50 a b = false → eq2 90 50 b a = false → r = 2) :
    Calls Tryd.prog 35 #[.int .i32 a, .int .i32 b] w (Ret (.int .i64 r) w) := by
  have H1 := Lib.hid h1
  have H2 := Lib.hid h2
  clear h1 h2
  have k0 := idx0
  have k1 := idx1
  have k2 := idx2
  have k3 := idx3
  have k4 := idx4
  have ke := run_eql45
  go_enter Tryd.func35, Tryd.ntmps35
  go_wp2_with (refine wpList_load_row rfl 72 _ rfl 0 rfl t _ fr _ hg Tryd.underlying72 rfl (by kernel_rfl) ?_)
  refine wp_loop_rounds 6 ?_
  iterate 6
    all_goals (try rw [rounds_succ])
    all_goals (try go_wp2)
  all_goals
    go_ret
    refine ⟨ret_int ?val, ?below⟩
    case below => repeat (first | exact Below.refl _ _ | refine below_alloc ?_ _)
    case val =>
      first
      | (refine (H2.out ?_ ?_ ?_ ?_ ?_ ?_ ?_ ?_ ?_ ?_).symm <;> assumption)
      | (refine (H1.out ?_).symm; repeat (first | assumption | (refine Or.inl ?_; assumption) | refine Or.inr ?_))

theorem replace_any (a b : Nat) (w : World) (hT : Tab w) :
    Calls Tryd.prog 35 #[.int .i32 a, .int .i32 b] w (Ret (.int .i64 (rc a b : Nat)) w) := by
  obtain ⟨_, t, fr, hg⟩ := hT
  by_cases e : a = b
  · subst e
    have HV := Lib.hid (rc_self a)
    go_enter Tryd.func35, Tryd.ntmps35
    go_wp2
    go_ret
    exact ⟨ret_int (by rw [HV.out]; rfl), Below.refl _ _⟩
  · refine replace_walk a b w t fr hg (by simp; omega) _ ?_ ?_
    · intro h
      have key : ∀ x y : Nat, twin x = y → twin y = x → x ≠ 0 → y ≠ 0 → (eq2 x y a b = true ∨ eq2 x y b a = true) → rc a b = 1 := by
        intro x y hxy hyx hx hy h
        simp only [eq2, Bool.and_eq_true, beq_iff_eq] at h
        rcases h with ⟨e1, e2⟩ | ⟨e1, e2⟩
        · have e1' : x = a := by omega
          have e2' : y = b := by omega
          subst e1' e2'
          simp [rc, e, hxy, hy]
        · have e1' : x = b := by omega
          have e2' : y = a := by omega
          subst e1' e2'
          simp [rc, e, hyx, hx]
      have : rc a b = 1 := by
        rcases h with h | h | h | h | h | h | h | h | h | h
        · exact key 79 48 (by decide) (by decide) (by decide) (by decide) (.inl h)
        · exact key 79 48 (by decide) (by decide) (by decide) (by decide) (.inr h)
        · exact key 73 49 (by decide) (by decide) (by decide) (by decide) (.inl h)
        · exact key 73 49 (by decide) (by decide) (by decide) (by decide) (.inr h)
        · exact key 66 56 (by decide) (by decide) (by decide) (by decide) (.inl h)
        · exact key 66 56 (by decide) (by decide) (by decide) (by decide) (.inr h)
        · exact key 83 53 (by decide) (by decide) (by decide) (by decide) (.inl h)
        · exact key 83 53 (by decide) (by decide) (by decide) (by decide) (.inr h)
        · exact key 90 50 (by decide) (by decide) (by decide) (by decide) (.inl h)
        · exact key 90 50 (by decide) (by decide) (by decide) (by decide) (.inr h)
      rw [this]; rfl
    · intro q0 q1 q2 q3 q4 q5 q6 q7 q8 q9
      have n : ¬ (twin a = b ∧ b ≠ 0) := by
        rintro ⟨ht, hb⟩
        have ha : twin a ≠ 0 := by rw [ht]; exact hb
        rcases twin_cases ha with rfl | rfl | rfl | rfl | rfl | rfl | rfl | rfl | rfl | rfl
        all_goals (revert q0 q1 q2 q3 q4 q5 q6 q7 q8 q9; subst ht; decide)
      simp [rc, e, n]
end Go.Proofs.YtmcodendnpjlaaaDoor
