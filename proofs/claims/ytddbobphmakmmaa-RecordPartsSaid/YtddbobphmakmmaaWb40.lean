/- Chapter 40: Link; the reference's number and Link. -/
import Derived.Test.YtddbobphmakmmaaWa40
import Derived.Laws.BitsAllLaws
namespace Go.Proofs.Ytddbobphmakmmaa
open Go.RowKit

theorem bytes_get {x : Rd} {i : Nat} (h : i < 32) : ∃ b, (bytesR x)[i]? = some b ∧ b < 256 ∧ (bV x).toArray[i]? = some (.int .u8 (b : Nat)) := by
  have hl : i < (bytesR x).length := by rw [bytesR_length]; exact h
  refine ⟨_, List.getElem?_eq_getElem hl, bytesR_lt (List.getElem_mem hl), ?_⟩
  simp [bV, hl]

theorem fold_snoc {l : List Nat} {i b x : Nat} (h : l[i]? = some b) : (l.take (i + 1)).foldl stepL x = stepL ((l.take i).foldl stepL x) b := by
  have hl := (List.getElem?_eq_some_iff.1 h).1
  rw [List.take_succ_eq_append_getElem hl, List.foldl_append]
  have : l[i] = b := by have := List.getElem?_eq_getElem hl; rw [h] at this; exact (Option.some.inj this).symm
  rw [this, List.foldl_cons, List.foldl_nil]

theorem step_wrap {s b : Nat} : IntKind.u64.wrap (((s ^^^ b : Nat) : Int) * 1099511628211) = ((stepL s b : Nat) : Int) := by
  rw [IntKind.wrap_u64]
  unfold stepL
  omega

set_option maxHeartbeats 2000000 in
theorem Link_any (s : Nat) (x : Rd) (hs : s < 18446744073709551616) (w : World) : Calls Try.prog 30 #[.int .u64 (s : Nat), rdV x] w (Ret (.int .u64 (link s x : Nat)) w) := by
  obtain ⟨V, hV⟩ : ∃ V, link s x = V := ⟨_, rfl⟩
  rw [hV]
  have HV := Lib.hid hV
  clear hV
  go_enter Try.func30, Try.ntmps30
  go_wp2_with fail
  refine (bytesOf_any x _).mono ?_
  rintro e w1 ⟨rfl, hb⟩
  have HB := Lib.hid (below_step (below_alloc (Below.refl _ _) _) hb)
  clear hb
  go_wp2
  go_loop [5, 11] (fun v i => ∃ k : Nat, k ≤ 32 ∧ i = .int .i64 k ∧ v = .int .u64 (((bytesR x).take k).foldl stepL s : Nat)) (fun _ i => 32 - (intOf i).toNat)
  case atStart => exact ⟨0, by omega, rfl, rfl⟩
  case round =>
    obtain ⟨k, hk, rfl, rfl⟩ := hrel
    have hst : ((bytesR x).take k).foldl stepL s < 18446744073709551616 := fold_lt hs
    by_cases hlt : k < 32
    · obtain ⟨b, hb1, hb2, hb3⟩ := bytes_get (x := x) hlt
      have HSN := Lib.hid (fold_snoc (x := s) hb1)
      obtain ⟨z, hz⟩ : ∃ z, ((bytesR x).take k).foldl stepL s = z := ⟨_, rfl⟩
      rw [hz] at hst HSN ⊢
      have hidx : ∀ w, (Instr.index 65 (.agg (bV x).toArray) (.int .i64 (k : Nat))).run Try.prog w = .ok (.int .u8 (b : Nat)) w := fun w => run_index_arr (n := 32) Try.underlying65 (by kernel_rfl) (by kernel_rfl) (by kernel_rfl) hlt hb3
      have hxor := u64_xor_nat z b hst (by omega)
      have hcv : IntKind.u64.wrap (b : Int) = (b : Int) := by rw [IntKind.wrap_u64]; omega
      have hmul := @step_wrap z b
      clear hb1 hb3 hz
      go_wp2
      go_round
      case rel => exact ⟨k + 1, by omega, by go_num, by rw [HSN.out]⟩
      case measure => simp [intOf]; omega
    · obtain rfl : k = 32 := by omega
      obtain rfl : ((bytesR x).take 32).foldl stepL s = V := by rw [List.take_of_length_le (by rw [bytesR_length]; omega)]; exact HV.out
      go_wp2
      go_ret
      exact ⟨rfl, HB.out⟩

theorem shl_byte {u i : Nat} (hu : u < 18446744073709551616) (hi : i < 8) : (u * 2 ^ (8 * i) % 18446744073709551616) / 72057594037927936 = (u >>> (56 - 8 * i)) % 256 := by
  rw [Nat.shiftRight_eq_div_pow]
  rcases (by omega : i = 0 ∨ i = 1 ∨ i = 2 ∨ i = 3 ∨ i = 4 ∨ i = 5 ∨ i = 6 ∨ i = 7) with rfl | rfl | rfl | rfl | rfl | rfl | rfl | rfl <;> simp only [Nat.reduceMul, Nat.reducePow, Nat.reduceSub] <;> omega

theorem shl_next {u i : Nat} : (u * 2 ^ (8 * i) % 18446744073709551616) * 256 % 18446744073709551616 = u * 2 ^ (8 * (i + 1)) % 18446744073709551616 := by
  rw [show 2 ^ (8 * (i + 1)) = 2 ^ (8 * i) * 256 by rw [Nat.mul_add, Nat.pow_add], ← Nat.mul_assoc]
  omega

def num8 (x : Nat) (n : Int) : Nat := (bytes8 n).foldl stepL x
theorem num8_lt {x : Nat} {n : Int} (h : x < 18446744073709551616) : num8 x n < 18446744073709551616 := fold_lt h
theorem link_num8 (x : Nat) (y : Rd) : link x y = num8 (num8 (num8 (num8 x y.s) y.n) y.m) y.r := by
  unfold link bytesR num8
  rw [List.foldl_append, List.foldl_append, List.foldl_append]

theorem bytes8_get {n : Int} {i : Nat} (h : i < 8) : (bytes8 n)[i]? = some (byteAt n i) := by simp [bytes8, h]
theorem bytes8_all (n : Int) : (bytes8 n).take 8 = bytes8 n := List.take_of_length_le (by simp [bytes8])

set_option maxHeartbeats 2000000 in
theorem number_any (s : Nat) (n : Int) (hs : s < 18446744073709551616) (w : World) : Calls Try.prog 31 #[.int .u64 (s : Nat), .int .i64 n] w fun e w' => e = .returned (.int .u64 (num8 s n : Nat)) ∧ w' = w := by
  obtain ⟨V, hV⟩ : ∃ V, num8 s n = V := ⟨_, rfl⟩
  rw [hV]
  have HV := Lib.hid hV
  clear hV
  have hu := u64_lt n
  have e0 : IntKind.u64.wrap n = ((u64 n : Nat) : Int) := by rw [IntKind.wrap_u64]; unfold u64; omega
  obtain ⟨U, hU⟩ : ∃ U, u64 n = U := ⟨_, rfl⟩
  rw [hU] at hu e0
  have HU := Lib.hid hU
  clear hU
  go_enter Try.func31, Try.ntmps31
  go_wp2
  go_loop [0, 5, 6] (fun v u i => ∃ k z : Nat, k ≤ 8 ∧ i = .int .i64 k ∧ u = .int .u64 (z : Nat) ∧ z = U * 2 ^ (8 * k) % 18446744073709551616 ∧ v = .int .u64 (((bytes8 n).take k).foldl stepL s : Nat)) (fun _ _ i => 8 - (intOf i).toNat)
  case atStart => exact ⟨0, U, by omega, rfl, rfl, by omega, rfl⟩
  case round =>
    obtain ⟨k, z, hk, rfl, rfl, hz, rfl⟩ := hrel
    have hst : ((bytes8 n).take k).foldl stepL s < 18446744073709551616 := fold_lt hs
    by_cases hlt : k < 8
    · have HSN := Lib.hid (fold_snoc (x := s) (bytes8_get (n := n) hlt))
      have hbl := byteAt_lt n k
      have hbe : z / 72057594037927936 = byteAt n k := by rw [hz, shl_byte hu hlt, ← HU.out]; rfl
      have HZN := Lib.hid (show z * 256 % 18446744073709551616 = U * 2 ^ (8 * (k + 1)) % 18446744073709551616 by rw [hz]; exact shl_next)
      have hzl : z < 18446744073709551616 := by rw [hz]; exact Nat.mod_lt _ (by decide)
      obtain ⟨b, hb⟩ : ∃ b, byteAt n k = b := ⟨_, rfl⟩
      obtain ⟨y, hy⟩ : ∃ y, ((bytes8 n).take k).foldl stepL s = y := ⟨_, rfl⟩
      rw [hb] at hbl hbe HSN
      rw [hy] at hst HSN ⊢
      have hxor := u64_xor_nat y b hst (by omega)
      have hmul := @step_wrap y b
      have hsh : (z : Int) / 72057594037927936 = (b : Int) := by omega
      have hsl : IntKind.u64.wrap ((z : Int) * 256) = ((z * 256 % 18446744073709551616 : Nat) : Int) := by rw [IntKind.wrap_u64]; omega
      clear hb hy hz hbe
      go_wp2
      go_round
      case rel => exact ⟨k + 1, _, by omega, by go_num, rfl, HZN.out, by rw [HSN.out]⟩
      case measure => simp [intOf]; omega
    · obtain rfl : k = 8 := by omega
      obtain rfl : ((bytes8 n).take 8).foldl stepL s = V := by rw [bytes8_all]; exact HV.out
      clear hz
      go_wp2
      go_ret
      exact ⟨rfl, rfl⟩

theorem number_ret (s : Nat) (n : Int) (hs : s < 18446744073709551616) (w : World) : Calls Try.prog 31 #[.int .u64 (s : Nat), .int .i64 n] w (Ret (.int .u64 (num8 s n : Nat)) w) :=
  (number_any s n hs w).mono fun _ _ ⟨he, hw⟩ => ⟨he, hw ▸ Below.refl _ _⟩

set_option maxHeartbeats 2000000 in
theorem refLink_any (s : Nat) (x : Rd) (hs : s < 18446744073709551616) (w : World) : Calls Try.prog 25 #[.int .u64 (s : Nat), rdV x] w (Ret (.int .u64 (link s x : Nat)) w) := by
  have HV := Lib.hid (link_num8 s x)
  obtain ⟨V, hV⟩ : ∃ V, link s x = V := ⟨_, rfl⟩
  rw [hV] at HV ⊢
  clear hV
  have h1 := num8_lt (n := x.s) hs
  have h2 := num8_lt (n := x.n) h1
  have h3 := num8_lt (n := x.m) h2
  have HQ1 := Lib.hid (number_ret s x.s hs)
  have HQ2 := Lib.hid (number_ret _ x.n h1)
  have HQ3 := Lib.hid (number_ret _ x.m h2)
  have HQ4 := Lib.hid (number_ret _ x.r h3)
  clear h1 h2 h3
  obtain ⟨y1, e1⟩ : ∃ y, num8 s x.s = y := ⟨_, rfl⟩
  rw [e1] at HQ1 HQ2 HQ3 HQ4 HV
  obtain ⟨y2, e2⟩ : ∃ y, num8 y1 x.n = y := ⟨_, rfl⟩
  rw [e2] at HQ2 HQ3 HQ4 HV
  obtain ⟨y3, e3⟩ : ∃ y, num8 y2 x.m = y := ⟨_, rfl⟩
  rw [e3] at HQ3 HQ4 HV
  rw [← HV.out] at HQ4
  clear e1 e2 e3 HV
  have HC := Lib.hid (Blk.new w 45 #[.int .i64 x.s, .int .i64 x.n, .int .i64 x.m, .int .i64 x.r, .int .u64 x.k])
  go_enter Try.func25, Try.ntmps25
  go_wp2_with fail
  generalize hw1 : w.alloc (.cells #[.int .i64 x.s, .int .i64 x.n, .int .i64 x.m, .int .i64 x.r, .int .u64 x.k] 45) = w1 at HC
  have HB1 : Hid (Below w.heap.size w w1) := Lib.hid (hw1 ▸ below_alloc (Below.refl _ _) _)
  clear hw1
  refine wp_region_B 14 (fun w'' => Below w1.heap.size w1 w'') mixed (by kernel_rfl) (below_closed w1) (Below.refl _ _).drew ?_
  simp only [List.take_succ_cons, List.take_zero, List.drop_succ_cons, List.drop_zero]
  intro KR hR
  have HR := Lib.hid hR
  clear hR
  have HCC := Lib.hid (show ∀ w'', Below w1.heap.size w1 w'' → w''.cell? ⟨w.heap.size, 0, none⟩ = some (.int .i64 x.s) ∧ w''.cell? ⟨w.heap.size, 1, none⟩ = some (.int .i64 x.n) ∧ w''.cell? ⟨w.heap.size, 2, none⟩ = some (.int .i64 x.m) ∧ w''.cell? ⟨w.heap.size, 3, none⟩ = some (.int .i64 x.r) from
    fun w'' hw => have h := HC.out.later hw; ⟨h.cell 0, h.cell 1, h.cell 2, h.cell 3⟩)
  repeat (first
    | ((with_reducible refine wpB_move ?_ ?_); exact rfl; simp only [Act.put, List.setIfInBounds_toArray, List.set_cons_zero, List.set_cons_succ])
    | (apply wpB_call 31 #[.int .u64 (s : Nat), .int .i64 x.s] rfl (v := .int .u64 (y1 : Nat))
       · (intro w'; go_simp)
       · exact fun w' _ => HQ1.out w'
       simp only [Act.put, List.setIfInBounds_toArray, List.set_cons_zero, List.set_cons_succ])
    | (apply wpB_call 31 #[.int .u64 (y1 : Nat), .int .i64 x.n] rfl (v := .int .u64 (y2 : Nat))
       · (intro w'; go_simp)
       · exact fun w' _ => HQ2.out w'
       simp only [Act.put, List.setIfInBounds_toArray, List.set_cons_zero, List.set_cons_succ])
    | (apply wpB_call 31 #[.int .u64 (y2 : Nat), .int .i64 x.m] rfl (v := .int .u64 (y3 : Nat))
       · (intro w'; go_simp)
       · exact fun w' _ => HQ3.out w'
       simp only [Act.put, List.setIfInBounds_toArray, List.set_cons_zero, List.set_cons_succ])
    | (apply wpB_call 31 #[.int .u64 (y3 : Nat), .int .i64 x.r] rfl (v := .int .u64 (V : Nat))
       · (intro w'; go_simp)
       · exact fun w' _ => HQ4.out w'
       simp only [Act.put, List.setIfInBounds_toArray, List.set_cons_zero, List.set_cons_succ])
    | (apply wpB_val rfl
       · (intro w' hw'; obtain ⟨c0, c1, c2, c3⟩ := HCC.out w' hw'; go_simp; with_reducible rfl)
       simp only [Act.put, List.setIfInBounds_toArray, List.set_cons_zero, List.set_cons_succ]))
  refine wpB_nil (HR.out _ (fun w2 hw2 => ?_))
  have HB2 := Lib.hid (below_step HB1.out hw2)
  clear HR HCC hw2
  go_wp2
  go_ret
  exact ⟨rfl, HB2.out⟩

end Go.Proofs.Ytddbobphmakmmaa
