/- Package auditor: need, inside, follows, link. -/
import Derived.Test.YtkfmmiekajgdjaaGreatT40
namespace Go.Proofs.YtkfmmiekajgdjaaGreat
open Go.RowKit
attribute [local go_sem] Oper.semAt_some

/-- The panic that leaves an examination with a part. -/
@[reducible] def wrongP (part : Int) : PanicEntry := { v := .iface 154 (.agg #[.int .i64 part]), recovered := false }
/-- The call returns nothing if b holds, and else leaves with the part; nothing that was there has changed. -/
def Need (b : Bool) (part : Int) (w : World) (e : Ending) (w' : World) : Prop := e = (if b then .returned (.tuple #[]) else .panicked [wrongP part]) ∧ Below w.heap.size w w'
set_option maxHeartbeats 4000000 in
theorem need_ok (part : Int) (w : World) : Calls Tryz.prog 51 #[.bool true, .int .i64 part] w (fun e w' => e = .returned (.tuple #[]) ∧ w = w') := by
  go_enter Tryz.func51, Tryz.ntmps51
  go_wp2
  go_end0
  exact ⟨rfl, rfl⟩
set_option maxHeartbeats 4000000 in
theorem need_no (part : Int) (w : World) : Calls Tryz.prog 51 #[.bool false, .int .i64 part] w (fun e w' => e = .panicked [wrongP part] ∧ w = w') := by
  go_enter Tryz.func51, Tryz.ntmps51
  go_wp2
  exact ⟨rfl, rfl, rfl⟩
set_option maxHeartbeats 4000000 in
theorem insideA_any (n a b : Int) (w : World) : Calls Tryz.prog 71 #[.int .i64 n, .int .i64 a, .int .i64 b] w (fun e w' => e = .returned (.bool (decide (a ≤ n) && decide (n ≤ b))) ∧ w = w') := by
  go_enter Tryz.func71, Tryz.ntmps71
  obtain ⟨d, hd⟩ : ∃ d, decide (a ≤ n) = d := ⟨_, rfl⟩
  rw [hd]
  cases d with
  | true =>
    go_wp2
    go_ret
    exact ⟨rfl, rfl⟩
  | false =>
    go_wp2
    go_ret
    exact ⟨rfl, rfl⟩
theorem need_any (b : Bool) (part : Int) (w : World) : Calls Tryz.prog 51 #[.bool b, .int .i64 part] w (Need b part w) := by
  cases b with
  | true => exact (need_ok part w).mono fun _ _ ⟨h1, h2⟩ => ⟨h1, h2 ▸ Below.refl _ _⟩
  | false => exact (need_no part w).mono fun _ _ ⟨h1, h2⟩ => ⟨h1, h2 ▸ Below.refl _ _⟩

/-- Whether a reading can follow another one. -/
def followsA (b x : Rd) : Bool := if x.s = b.s then decide (b.m ≤ x.m) && decide (b.r ≤ x.r) else decide (x.m = b.m)
set_option maxHeartbeats 1000000 in
theorem follows_any (b x : Rd) (w : World) : Calls Tryz.prog 72 #[rdV b, rdV x] w (Ret (.bool (followsA b x)) w) := by
  go_enter Tryz.func72, Tryz.ntmps72
  by_cases h : x.s = b.s
  · have hd : (x.s == b.s) = true := by simpa using h
    have HV := Lib.hid (show followsA b x = (decide (b.m ≤ x.m) && decide (b.r ≤ x.r)) by unfold followsA; rw [if_pos h])
    clear h
    obtain ⟨d, hd2⟩ : ∃ d, decide (b.m ≤ x.m) = d := ⟨_, rfl⟩
    rw [hd2] at HV
    cases d with
    | true =>
      go_wp2
      go_ret
      exact ⟨ret_bool (by rw [HV.out, Bool.true_and]), by go_grown⟩
    | false =>
      go_wp2
      go_ret
      exact ⟨ret_bool (by rw [HV.out, Bool.false_and]), by go_grown⟩
  · have hd : (x.s == b.s) = false := by simpa using h
    have HV := Lib.hid (show followsA b x = decide (x.m = b.m) by unfold followsA; rw [if_neg h])
    clear h
    go_wp2
    go_ret
    exact ⟨ret_bool (by rw [HV.out]; rfl), by go_grown⟩

theorem and_byte {n : Int} {sh k b : Nat} (hs : sh = 56 - 8 * k) (hb : IntKind.u64.wrap n / 2 ^ (56 - 8 * k) % 256 = (b : Int)) : bits .and .u64 (IntKind.u64.wrap n / 2 ^ sh) 255 = (b : Int) := by
  rw [hs]
  obtain ⟨N, hN⟩ : ∃ N : Nat, IntKind.u64.wrap n = (N : Int) := ⟨(IntKind.u64.wrap n).toNat, by rw [IntKind.wrap_u64]; omega⟩
  have hl : N < 18446744073709551616 := by have := IntKind.wrap_u64 (n := n); omega
  rw [hN] at hb ⊢
  have hq : (N : Int) / 2 ^ (56 - 8 * k) = ((N / 2 ^ (56 - 8 * k) : Nat) : Int) := by push_cast; rfl
  have hql : N / 2 ^ (56 - 8 * k) ≤ N := Nat.div_le_self _ _
  rw [hq] at hb ⊢
  generalize N / 2 ^ (56 - 8 * k) = q at hb hql ⊢
  have h2 := u64_and_nat q 255 (by omega) (by omega)
  rw [show ((255 : Nat) : Int) = 255 from rfl] at h2
  rw [h2, show (255 : Nat) = 2 ^ 8 - 1 from rfl, Nat.and_two_pow_sub_one_eq_mod]
  omega
theorem bytesR_at (x : Rd) {i k : Nat} (hi : i < 4) (hk : k < 8) : (bytesR x)[8 * i + k]? = some (byteAt (numAt x i) k) := by
  have h8 : ∀ n, (bytes8 n).length = 8 := fun n => by simp [bytes8]
  unfold bytesR
  have g : ∀ n, (bytes8 n)[k]? = some (byteAt n k) := fun n => by simp [bytes8, hk]
  rcases (by omega : i = 0 ∨ i = 1 ∨ i = 2 ∨ i = 3) with rfl | rfl | rfl | rfl
  · rw [List.append_assoc, List.append_assoc, List.getElem?_append_left (by rw [h8]; omega), show 8 * 0 + k = k by omega]; exact g _
  · rw [List.append_assoc, List.append_assoc, List.getElem?_append_right (by rw [h8]; omega), h8, List.getElem?_append_left (by rw [h8]; omega), show 8 * 1 + k - 8 = k by omega]; exact g _
  · rw [List.append_assoc, List.getElem?_append_right (by rw [List.length_append, h8, h8]; omega), List.length_append, h8, h8, List.getElem?_append_left (by rw [h8]; omega), show 8 * 2 + k - (8 + 8) = k by omega]; exact g _
  · rw [List.getElem?_append_right (by simp only [List.length_append, h8]; omega)]
    simp only [List.length_append, h8]
    rw [show 8 * 3 + k - (8 + 8 + 8) = k by omega]; exact g _
set_option maxRecDepth 100000 in
set_option maxHeartbeats 8000000 in
theorem linkA_any (s : Nat) (x : Rd) (hs : s < 18446744073709551616) (w : World) : Calls Tryz.prog 73 #[.int .u64 (s : Nat), rdV x] w (Ret (.int .u64 (link s x : Nat)) w) := by
  obtain ⟨V, hV⟩ : ∃ V, link s x = V := ⟨_, rfl⟩
  rw [hV]
  have HV := Lib.hid hV
  clear hV
  go_enter Tryz.func73, Tryz.ntmps73
  go_wp2
  go_loop [0, 17] (fun v i => ∃ k : Nat, k ≤ 4 ∧ i = .int .i64 k ∧ v = .int .u64 (((bytesR x).take (8 * k)).foldl stepL s : Nat)) (fun _ i => 4 - (intOf i).toNat)
  case atStart => exact ⟨0, by omega, rfl, rfl⟩
  case round =>
    obtain ⟨i, hi, rfl, rfl⟩ := hrel
    by_cases hlt : i < 4
    · have hidx : ∀ w, (Instr.index 127 (.agg #[.int .i64 x.s, .int .i64 x.n, .int .i64 x.m, .int .i64 x.r]) (.int .i64 (i : Nat))).run Tryz.prog w = .ok (.int .i64 (numAt x i)) w := fun w => by
        rcases (by omega : i = 0 ∨ i = 1 ∨ i = 2 ∨ i = 3) with rfl | rfl | rfl | rfl <;> exact (by as_aux_lemma => kernel_rfl)
      have HBA := Lib.hid (fun (k : Nat) (hk : k < 8) => fold_snoc (x := s) (bytesR_at x hlt hk))
      have HBW := Lib.hid (fun k => byte_wrap (numAt x i) k)
      obtain ⟨n, hn⟩ : ∃ n, numAt x i = n := ⟨_, rfl⟩
      rw [hn] at hidx HBA HBW
      clear hn
      go_wp2
      go_loop [0, 7] (fun v j => ∃ k : Nat, k ≤ 8 ∧ j = .int .i64 (56 - 8 * (k : Int)) ∧ v = .int .u64 (((bytesR x).take (8 * i + k)).foldl stepL s : Nat)) (fun _ j => ((intOf j) + 8).toNat)
      case atStart => exact ⟨0, by omega, rfl, rfl⟩
      case round =>
        obtain ⟨k, hk, rfl, rfl⟩ := hrel
        have hst : ((bytesR x).take (8 * i + k)).foldl stepL s < 18446744073709551616 := fold_lt hs
        by_cases hk8 : k < 8
        · have HSN := Lib.hid (HBA.out k hk8)
          obtain ⟨z, hz⟩ : ∃ z, ((bytesR x).take (8 * i + k)).foldl stepL s = z := ⟨_, rfl⟩
          rw [hz] at hst HSN ⊢
          clear hz
          obtain ⟨sh, hsh⟩ : ∃ sh : Nat, 56 - 8 * (k : Int) = sh := ⟨56 - 8 * k, by omega⟩
          rw [hsh]
          have HSH := Lib.hid (show sh = 56 - 8 * k by omega)
          have HVA := Lib.hid (show (sh : Int) - 8 = 56 - 8 * ((k + 1 : Nat) : Int) by omega)
          have h56 : (sh : Int) ≤ 56 := by omega
          have hand : bits .and .u64 (IntKind.u64.wrap n / 2 ^ sh) 255 = ((byteAt n k : Nat) : Int) := and_byte HSH.out (HBW.out k)
          have hbl : byteAt n k < 256 := byteAt_lt n k
          obtain ⟨b, hb⟩ : ∃ b, byteAt n k = b := ⟨_, rfl⟩
          rw [hb] at hand HSN hbl
          have hxor := u64_xor_nat z b hst (by omega)
          have hmul := @step_wrap z b
          clear hsh hb
          go_wp2
          go_round
          case rel => exact ⟨k + 1, hk8, by rw [← HVA.out], by rw [← Nat.add_assoc, HSN.out]⟩
          case measure => simp [intOf]; omega
        · obtain rfl : k = 8 := by omega
          go_wp2
          go_round
          case rel => exact ⟨i + 1, by omega, by go_num, by rw [show 8 * (i + 1) = 8 * i + 8 by omega]⟩
          case measure => simp [intOf]; omega
    · obtain rfl : i = 4 := by omega
      obtain rfl : ((bytesR x).take (8 * 4)).foldl stepL s = V := by rw [List.take_of_length_le (by rw [bytesR_length]; omega)]; exact HV.out
      go_wp2
      go_ret
      exact ⟨rfl, by go_grown⟩
end Go.Proofs.YtkfmmiekajgdjaaGreat
