/- Chapter 40: ChainLinks. -/
import Derived.Test.YtckbooccgdddbaaWo40
namespace Go.Proofs.Ytckbooccgdddbaa
open Go.RowKit
attribute [local go_sem] Oper.semAt_some

set_option maxRecDepth 100000 in
set_option maxHeartbeats 4000000 in
theorem chainLinks_any (a b : Nat) (x : Rd) (which q y : Nat) (w : World) (ha : a < 18446744073709551616) (hb : b < 18446744073709551616) (hw : which < 256) (hq : q < 256) (hy : y < 256) :
    Calls Try.prog 9 #[.int .u64 (a : Nat), .int .u64 (b : Nat), rdV x, .int .u8 (which : Nat), .int .u8 (q : Nat), .int .u8 (y : Nat)] w (Ret (.bool true) w) := by
  have HO := Lib.hid (link_off (s := a) (k := q % 8) (by omega) hy (chg_off x (which := which % 4) (q := q) hy (by omega)) ha)
  have HI := Lib.hid (fun h : link a x = link b x => link_inj ha hb h)
  have HCH := Lib.hid (fun w' => changed_any x (which % 4) q y w' (by omega) hq hy)
  obtain ⟨z, hz⟩ : ∃ z, chg x (which % 4) q y = z := ⟨_, rfl⟩
  rw [hz] at HO HCH
  clear hz
  go_enter Try.func9, Try.ntmps9
  go_wp2_with fail
  refine (head_any _).mono ?_
  rintro e w1 ⟨rfl, hb1⟩
  have HB1 := Lib.hid hb1
  clear hb1
  have HX1 := Lib.hid ((RdB.new w x).later HB1.out)
  obtain ⟨c0, c1, c2, c3, c4⟩ := HX1.out.cells
  go_wp2_with fail
  clear c0 c1 c2 c3 c4
  refine (HCH.out w1).mono ?_
  rintro e w2 ⟨rfl, hb2⟩
  have HX2 := Lib.hid (HX1.out.later hb2)
  have HB2 := Lib.hid (below_step HB1.out hb2)
  clear hb2
  obtain ⟨c0, c1, c2, c3, c4⟩ := HX2.out.cells
  have hz2 : w.heap.size < w2.heap.size := by have := HB2.out.size; simp at this; omega
  go_wp2_with fail
  obtain ⟨x2, hx2⟩ : ∃ x2 : Rd, x2 = ⟨x.s, x.n, x.m, x.r, 18446744073709551615 ^^^ x.k, Nat.xor_lt_two_pow (n := 64) (by decide) x.hk⟩ := ⟨_, rfl⟩
  have ek : bits .xor .u64 IntKind.u64.max (x.k : Int) = ((x2.k : Nat) : Int) := by
    rw [hx2]
    exact u64_xor_nat 18446744073709551615 x.k (by decide) x.hk
  rw [ek]
  clear c0 c1 c2 c3 c4
  have HL2 := Lib.hid (show link a x2 = link a x by rw [hx2]; exact link_of_nums rfl rfl rfl rfl a)
  have e0 : x2.s = x.s := by rw [hx2]
  have e1 : x2.n = x.n := by rw [hx2]
  have e2 : x2.m = x.m := by rw [hx2]
  have e3 : x2.r = x.r := by rw [hx2]
  rw [show (Obj.cells #[Value.int .i64 x.s, Value.int .i64 x.n, Value.int .i64 x.m, Value.int .i64 x.r, Value.int .u64 (x2.k : Nat)] 25 (0, 0)) = Obj.cells #[Value.int .i64 x2.s, Value.int .i64 x2.n, Value.int .i64 x2.m, Value.int .i64 x2.r, Value.int .u64 (x2.k : Nat)] 25 (0, 0) by rw [e0, e1, e2, e3]]
  clear ek hx2 e0 e1 e2 e3
  have r1 : RdB ((w2.alloc (.cells #[.int .i64 z.s, .int .i64 z.n, .int .i64 z.m, .int .i64 z.r, .int .u64 (z.k : Nat)] 25)).alloc (.cells #[.int .i64 x2.s, .int .i64 x2.n, .int .i64 x2.m, .int .i64 x2.r, .int .u64 (x2.k : Nat)] 25)) w2.heap.size z := (RdB.new w2 z).later (below_alloc0 _ _)
  have r2 : RdB ((w2.alloc (.cells #[.int .i64 z.s, .int .i64 z.n, .int .i64 z.m, .int .i64 z.r, .int .u64 (z.k : Nat)] 25)).alloc (.cells #[.int .i64 x2.s, .int .i64 x2.n, .int .i64 x2.m, .int .i64 x2.r, .int .u64 (x2.k : Nat)] 25)) (w2.heap.size + 1) x2 := by
    have := RdB.new (w2.alloc (.cells #[.int .i64 z.s, .int .i64 z.n, .int .i64 z.m, .int .i64 z.r, .int .u64 (z.k : Nat)] 25)) x2
    rwa [World.size_alloc] at this
  have r0 : RdB ((w2.alloc (.cells #[.int .i64 z.s, .int .i64 z.n, .int .i64 z.m, .int .i64 z.r, .int .u64 (z.k : Nat)] 25)).alloc (.cells #[.int .i64 x2.s, .int .i64 x2.n, .int .i64 x2.m, .int .i64 x2.r, .int .u64 (x2.k : Nat)] 25)) w.heap.size x := (HX2.out.later (below_alloc0 _ _)).later (below_alloc0 _ _)
  have rb : Below w.heap.size w ((w2.alloc (.cells #[.int .i64 z.s, .int .i64 z.n, .int .i64 z.m, .int .i64 z.r, .int .u64 (z.k : Nat)] 25)).alloc (.cells #[.int .i64 x2.s, .int .i64 x2.n, .int .i64 x2.m, .int .i64 x2.r, .int .u64 (x2.k : Nat)] 25)) :=
    below_alloc (below_alloc (below_step (below_alloc0 _ _) HB2.out) _) _
  obtain ⟨W, hW⟩ : ∃ W, (w2.alloc (.cells #[.int .i64 z.s, .int .i64 z.n, .int .i64 z.m, .int .i64 z.r, .int .u64 (z.k : Nat)] 25)).alloc (.cells #[.int .i64 x2.s, .int .i64 x2.n, .int .i64 x2.m, .int .i64 x2.r, .int .u64 (x2.k : Nat)] 25) = W := ⟨_, rfl⟩
  rw [hW] at r0 r1 r2 rb ⊢
  have R0 := Lib.hid r0
  have R1 := Lib.hid r1
  have R2 := Lib.hid r2
  have RB := Lib.hid rb
  clear r0 r1 r2 rb hW
  have K1 := Lib.hid (fun w' => Link_any a x ha w')
  have K2 := Lib.hid (fun w' => Link_any b x hb w')
  have K3 := Lib.hid (fun w' => Link_any a z ha w')
  have K4 := Lib.hid (fun w' => Link_any a x2 ha w')
  have HJ := Lib.hid (show link a x = link b x ↔ a = b from ⟨HI.out, fun h => by rw [h]⟩)
  rw [HL2.out] at K4
  obtain ⟨LA, hLA⟩ : ∃ L, link a x = L := ⟨_, rfl⟩
  obtain ⟨LB, hLB⟩ : ∃ L, link b x = L := ⟨_, rfl⟩
  obtain ⟨LZ, hLZ⟩ : ∃ L, link a z = L := ⟨_, rfl⟩
  rw [hLA] at K1 K4 HO HJ
  rw [hLB] at K2 HJ
  rw [hLZ] at K3 HO
  clear hLA hLB hLZ HI HL2
  by_cases hy0 : y = 0 <;> by_cases hab : a = b
  · have hLZ : LZ = LA := by have := HO.out; omega
    have hLB : LB = LA := by have := HJ.out; omega
    clear HO HJ
    subst LZ
    subst LB
    subst hab
    have hy2 : (y : Int) = 0 := by omega
    refine wp_region_B 35 (fun w'' => Below W.heap.size W w'') mixed (by kernel_rfl) (below_closed W) (Below.refl _ _).drew ?_
    simp only [List.take_succ_cons, List.take_zero, List.drop_succ_cons, List.drop_zero]
    intro KR hR
    have HR := Lib.hid hR
    clear hR
    have HCC := Lib.hid (show ∀ w'', Below W.heap.size W w'' → w''.cell? ⟨w.heap.size, 0, none⟩ = some (.int .i64 x.s) ∧ w''.cell? ⟨w.heap.size, 1, none⟩ = some (.int .i64 x.n) ∧ w''.cell? ⟨w.heap.size, 2, none⟩ = some (.int .i64 x.m) ∧ w''.cell? ⟨w.heap.size, 3, none⟩ = some (.int .i64 x.r) ∧ w''.cell? ⟨w.heap.size, 4, none⟩ = some (.int .u64 (x.k : Nat)) ∧ w''.cell? ⟨w2.heap.size, 0, none⟩ = some (.int .i64 z.s) ∧ w''.cell? ⟨w2.heap.size, 1, none⟩ = some (.int .i64 z.n) ∧ w''.cell? ⟨w2.heap.size, 2, none⟩ = some (.int .i64 z.m) ∧ w''.cell? ⟨w2.heap.size, 3, none⟩ = some (.int .i64 z.r) ∧ w''.cell? ⟨w2.heap.size, 4, none⟩ = some (.int .u64 (z.k : Nat)) ∧ w''.cell? ⟨w2.heap.size + 1, 0, none⟩ = some (.int .i64 x2.s) ∧ w''.cell? ⟨w2.heap.size + 1, 1, none⟩ = some (.int .i64 x2.n) ∧ w''.cell? ⟨w2.heap.size + 1, 2, none⟩ = some (.int .i64 x2.m) ∧ w''.cell? ⟨w2.heap.size + 1, 3, none⟩ = some (.int .i64 x2.r) ∧ w''.cell? ⟨w2.heap.size + 1, 4, none⟩ = some (.int .u64 (x2.k : Nat)) from fun w'' hw => ⟨(R0.out.later hw).cells.1, (R0.out.later hw).cells.2.1, (R0.out.later hw).cells.2.2.1, (R0.out.later hw).cells.2.2.2.1, (R0.out.later hw).cells.2.2.2.2, (R1.out.later hw).cells.1, (R1.out.later hw).cells.2.1, (R1.out.later hw).cells.2.2.1, (R1.out.later hw).cells.2.2.2.1, (R1.out.later hw).cells.2.2.2.2, (R2.out.later hw).cells.1, (R2.out.later hw).cells.2.1, (R2.out.later hw).cells.2.2.1, (R2.out.later hw).cells.2.2.2.1, (R2.out.later hw).cells.2.2.2.2⟩)
    repeat (first
      | ((with_reducible refine wpB_move ?_ ?_); exact rfl; simp only [Act.put, List.setIfInBounds_toArray, List.set_cons_zero, List.set_cons_succ])
      | ((with_reducible refine wpB_skip ?_ ?_); exact rfl; simp only [Act.put, List.setIfInBounds_toArray, List.set_cons_zero, List.set_cons_succ])
      | (apply wpB_call 16 #[.int .u64 (a : Nat), rdV x] rfl (v := _)
         · (intro w'; go_simp)
         · exact fun w' hw' => K1.out w'
         simp only [Act.put, List.setIfInBounds_toArray, List.set_cons_zero, List.set_cons_succ])
      | (apply wpB_call 16 #[.int .u64 (a : Nat), rdV z] rfl (v := _)
         · (intro w'; go_simp)
         · exact fun w' hw' => K3.out w'
         simp only [Act.put, List.setIfInBounds_toArray, List.set_cons_zero, List.set_cons_succ])
      | (apply wpB_call 16 #[.int .u64 (a : Nat), rdV x2] rfl (v := _)
         · (intro w'; go_simp)
         · exact fun w' hw' => K4.out w'
         simp only [Act.put, List.setIfInBounds_toArray, List.set_cons_zero, List.set_cons_succ])
      | (apply wpB_val rfl
         · (intro w' hw'; obtain ⟨c0, c1, c2, c3, c4, c5, c6, c7, c8, c9, c10, c11, c12, c13, c14⟩ := HCC.out w' hw'; go_simp; with_reducible rfl)
         simp only [Act.put, List.setIfInBounds_toArray, List.set_cons_zero, List.set_cons_succ]))
    refine wpB_nil (HR.out _ (fun w2 hw2 => ?_))
    clear HR HCC
    have HB3 := Lib.hid (below_step RB.out hw2)
    clear hw2
    go_wp2
    go_ret
    exact ⟨rfl, HB3.out⟩
  · have hLZ : LZ = LA := by have := HO.out; omega
    have hLB : ¬ LA = LB := by have := HJ.out; omega
    clear HO HJ
    subst LZ
    have hLB2 : ((LA : Int) == (LB : Int)) = false := by rw [beq_eq_false_iff_ne]; omega
    have hab2 : ((a : Int) == (b : Int)) = false := by rw [beq_eq_false_iff_ne]; omega
    have hy2 : (y : Int) = 0 := by omega
    refine wp_region_B 35 (fun w'' => Below W.heap.size W w'') mixed (by kernel_rfl) (below_closed W) (Below.refl _ _).drew ?_
    simp only [List.take_succ_cons, List.take_zero, List.drop_succ_cons, List.drop_zero]
    intro KR hR
    have HR := Lib.hid hR
    clear hR
    have HCC := Lib.hid (show ∀ w'', Below W.heap.size W w'' → w''.cell? ⟨w.heap.size, 0, none⟩ = some (.int .i64 x.s) ∧ w''.cell? ⟨w.heap.size, 1, none⟩ = some (.int .i64 x.n) ∧ w''.cell? ⟨w.heap.size, 2, none⟩ = some (.int .i64 x.m) ∧ w''.cell? ⟨w.heap.size, 3, none⟩ = some (.int .i64 x.r) ∧ w''.cell? ⟨w.heap.size, 4, none⟩ = some (.int .u64 (x.k : Nat)) ∧ w''.cell? ⟨w2.heap.size, 0, none⟩ = some (.int .i64 z.s) ∧ w''.cell? ⟨w2.heap.size, 1, none⟩ = some (.int .i64 z.n) ∧ w''.cell? ⟨w2.heap.size, 2, none⟩ = some (.int .i64 z.m) ∧ w''.cell? ⟨w2.heap.size, 3, none⟩ = some (.int .i64 z.r) ∧ w''.cell? ⟨w2.heap.size, 4, none⟩ = some (.int .u64 (z.k : Nat)) ∧ w''.cell? ⟨w2.heap.size + 1, 0, none⟩ = some (.int .i64 x2.s) ∧ w''.cell? ⟨w2.heap.size + 1, 1, none⟩ = some (.int .i64 x2.n) ∧ w''.cell? ⟨w2.heap.size + 1, 2, none⟩ = some (.int .i64 x2.m) ∧ w''.cell? ⟨w2.heap.size + 1, 3, none⟩ = some (.int .i64 x2.r) ∧ w''.cell? ⟨w2.heap.size + 1, 4, none⟩ = some (.int .u64 (x2.k : Nat)) from fun w'' hw => ⟨(R0.out.later hw).cells.1, (R0.out.later hw).cells.2.1, (R0.out.later hw).cells.2.2.1, (R0.out.later hw).cells.2.2.2.1, (R0.out.later hw).cells.2.2.2.2, (R1.out.later hw).cells.1, (R1.out.later hw).cells.2.1, (R1.out.later hw).cells.2.2.1, (R1.out.later hw).cells.2.2.2.1, (R1.out.later hw).cells.2.2.2.2, (R2.out.later hw).cells.1, (R2.out.later hw).cells.2.1, (R2.out.later hw).cells.2.2.1, (R2.out.later hw).cells.2.2.2.1, (R2.out.later hw).cells.2.2.2.2⟩)
    repeat (first
      | ((with_reducible refine wpB_move ?_ ?_); exact rfl; simp only [Act.put, List.setIfInBounds_toArray, List.set_cons_zero, List.set_cons_succ])
      | ((with_reducible refine wpB_skip ?_ ?_); exact rfl; simp only [Act.put, List.setIfInBounds_toArray, List.set_cons_zero, List.set_cons_succ])
      | (apply wpB_call 16 #[.int .u64 (a : Nat), rdV x] rfl (v := _)
         · (intro w'; go_simp)
         · exact fun w' hw' => K1.out w'
         simp only [Act.put, List.setIfInBounds_toArray, List.set_cons_zero, List.set_cons_succ])
      | (apply wpB_call 16 #[.int .u64 (b : Nat), rdV x] rfl (v := _)
         · (intro w'; go_simp)
         · exact fun w' hw' => K2.out w'
         simp only [Act.put, List.setIfInBounds_toArray, List.set_cons_zero, List.set_cons_succ])
      | (apply wpB_call 16 #[.int .u64 (a : Nat), rdV z] rfl (v := _)
         · (intro w'; go_simp)
         · exact fun w' hw' => K3.out w'
         simp only [Act.put, List.setIfInBounds_toArray, List.set_cons_zero, List.set_cons_succ])
      | (apply wpB_call 16 #[.int .u64 (a : Nat), rdV x2] rfl (v := _)
         · (intro w'; go_simp)
         · exact fun w' hw' => K4.out w'
         simp only [Act.put, List.setIfInBounds_toArray, List.set_cons_zero, List.set_cons_succ])
      | (apply wpB_val rfl
         · (intro w' hw'; obtain ⟨c0, c1, c2, c3, c4, c5, c6, c7, c8, c9, c10, c11, c12, c13, c14⟩ := HCC.out w' hw'; go_simp; with_reducible rfl)
         simp only [Act.put, List.setIfInBounds_toArray, List.set_cons_zero, List.set_cons_succ]))
    refine wpB_nil (HR.out _ (fun w2 hw2 => ?_))
    clear HR HCC
    have HB3 := Lib.hid (below_step RB.out hw2)
    clear hw2
    go_wp2
    go_ret
    exact ⟨rfl, HB3.out⟩
  · have hLZ : ¬ LA = LZ := by have := HO.out; omega
    have hLB : LB = LA := by have := HJ.out; omega
    clear HO HJ
    have hLZ2 : ((LA : Int) == (LZ : Int)) = false := by rw [beq_eq_false_iff_ne]; omega
    subst LB
    subst hab
    have hy2 : ((y : Int) == 0) = false := by rw [beq_eq_false_iff_ne]; omega
    refine wp_region_B 35 (fun w'' => Below W.heap.size W w'') mixed (by kernel_rfl) (below_closed W) (Below.refl _ _).drew ?_
    simp only [List.take_succ_cons, List.take_zero, List.drop_succ_cons, List.drop_zero]
    intro KR hR
    have HR := Lib.hid hR
    clear hR
    have HCC := Lib.hid (show ∀ w'', Below W.heap.size W w'' → w''.cell? ⟨w.heap.size, 0, none⟩ = some (.int .i64 x.s) ∧ w''.cell? ⟨w.heap.size, 1, none⟩ = some (.int .i64 x.n) ∧ w''.cell? ⟨w.heap.size, 2, none⟩ = some (.int .i64 x.m) ∧ w''.cell? ⟨w.heap.size, 3, none⟩ = some (.int .i64 x.r) ∧ w''.cell? ⟨w.heap.size, 4, none⟩ = some (.int .u64 (x.k : Nat)) ∧ w''.cell? ⟨w2.heap.size, 0, none⟩ = some (.int .i64 z.s) ∧ w''.cell? ⟨w2.heap.size, 1, none⟩ = some (.int .i64 z.n) ∧ w''.cell? ⟨w2.heap.size, 2, none⟩ = some (.int .i64 z.m) ∧ w''.cell? ⟨w2.heap.size, 3, none⟩ = some (.int .i64 z.r) ∧ w''.cell? ⟨w2.heap.size, 4, none⟩ = some (.int .u64 (z.k : Nat)) ∧ w''.cell? ⟨w2.heap.size + 1, 0, none⟩ = some (.int .i64 x2.s) ∧ w''.cell? ⟨w2.heap.size + 1, 1, none⟩ = some (.int .i64 x2.n) ∧ w''.cell? ⟨w2.heap.size + 1, 2, none⟩ = some (.int .i64 x2.m) ∧ w''.cell? ⟨w2.heap.size + 1, 3, none⟩ = some (.int .i64 x2.r) ∧ w''.cell? ⟨w2.heap.size + 1, 4, none⟩ = some (.int .u64 (x2.k : Nat)) from fun w'' hw => ⟨(R0.out.later hw).cells.1, (R0.out.later hw).cells.2.1, (R0.out.later hw).cells.2.2.1, (R0.out.later hw).cells.2.2.2.1, (R0.out.later hw).cells.2.2.2.2, (R1.out.later hw).cells.1, (R1.out.later hw).cells.2.1, (R1.out.later hw).cells.2.2.1, (R1.out.later hw).cells.2.2.2.1, (R1.out.later hw).cells.2.2.2.2, (R2.out.later hw).cells.1, (R2.out.later hw).cells.2.1, (R2.out.later hw).cells.2.2.1, (R2.out.later hw).cells.2.2.2.1, (R2.out.later hw).cells.2.2.2.2⟩)
    repeat (first
      | ((with_reducible refine wpB_move ?_ ?_); exact rfl; simp only [Act.put, List.setIfInBounds_toArray, List.set_cons_zero, List.set_cons_succ])
      | ((with_reducible refine wpB_skip ?_ ?_); exact rfl; simp only [Act.put, List.setIfInBounds_toArray, List.set_cons_zero, List.set_cons_succ])
      | (apply wpB_call 16 #[.int .u64 (a : Nat), rdV x] rfl (v := _)
         · (intro w'; go_simp)
         · exact fun w' hw' => K1.out w'
         simp only [Act.put, List.setIfInBounds_toArray, List.set_cons_zero, List.set_cons_succ])
      | (apply wpB_call 16 #[.int .u64 (a : Nat), rdV z] rfl (v := _)
         · (intro w'; go_simp)
         · exact fun w' hw' => K3.out w'
         simp only [Act.put, List.setIfInBounds_toArray, List.set_cons_zero, List.set_cons_succ])
      | (apply wpB_call 16 #[.int .u64 (a : Nat), rdV x2] rfl (v := _)
         · (intro w'; go_simp)
         · exact fun w' hw' => K4.out w'
         simp only [Act.put, List.setIfInBounds_toArray, List.set_cons_zero, List.set_cons_succ])
      | (apply wpB_val rfl
         · (intro w' hw'; obtain ⟨c0, c1, c2, c3, c4, c5, c6, c7, c8, c9, c10, c11, c12, c13, c14⟩ := HCC.out w' hw'; go_simp; with_reducible rfl)
         simp only [Act.put, List.setIfInBounds_toArray, List.set_cons_zero, List.set_cons_succ]))
    refine wpB_nil (HR.out _ (fun w2 hw2 => ?_))
    clear HR HCC
    have HB3 := Lib.hid (below_step RB.out hw2)
    clear hw2
    go_wp2
    go_ret
    exact ⟨rfl, HB3.out⟩
  · have hLZ : ¬ LA = LZ := by have := HO.out; omega
    have hLB : ¬ LA = LB := by have := HJ.out; omega
    clear HO HJ
    have hLZ2 : ((LA : Int) == (LZ : Int)) = false := by rw [beq_eq_false_iff_ne]; omega
    have hLB2 : ((LA : Int) == (LB : Int)) = false := by rw [beq_eq_false_iff_ne]; omega
    have hab2 : ((a : Int) == (b : Int)) = false := by rw [beq_eq_false_iff_ne]; omega
    have hy2 : ((y : Int) == 0) = false := by rw [beq_eq_false_iff_ne]; omega
    refine wp_region_B 35 (fun w'' => Below W.heap.size W w'') mixed (by kernel_rfl) (below_closed W) (Below.refl _ _).drew ?_
    simp only [List.take_succ_cons, List.take_zero, List.drop_succ_cons, List.drop_zero]
    intro KR hR
    have HR := Lib.hid hR
    clear hR
    have HCC := Lib.hid (show ∀ w'', Below W.heap.size W w'' → w''.cell? ⟨w.heap.size, 0, none⟩ = some (.int .i64 x.s) ∧ w''.cell? ⟨w.heap.size, 1, none⟩ = some (.int .i64 x.n) ∧ w''.cell? ⟨w.heap.size, 2, none⟩ = some (.int .i64 x.m) ∧ w''.cell? ⟨w.heap.size, 3, none⟩ = some (.int .i64 x.r) ∧ w''.cell? ⟨w.heap.size, 4, none⟩ = some (.int .u64 (x.k : Nat)) ∧ w''.cell? ⟨w2.heap.size, 0, none⟩ = some (.int .i64 z.s) ∧ w''.cell? ⟨w2.heap.size, 1, none⟩ = some (.int .i64 z.n) ∧ w''.cell? ⟨w2.heap.size, 2, none⟩ = some (.int .i64 z.m) ∧ w''.cell? ⟨w2.heap.size, 3, none⟩ = some (.int .i64 z.r) ∧ w''.cell? ⟨w2.heap.size, 4, none⟩ = some (.int .u64 (z.k : Nat)) ∧ w''.cell? ⟨w2.heap.size + 1, 0, none⟩ = some (.int .i64 x2.s) ∧ w''.cell? ⟨w2.heap.size + 1, 1, none⟩ = some (.int .i64 x2.n) ∧ w''.cell? ⟨w2.heap.size + 1, 2, none⟩ = some (.int .i64 x2.m) ∧ w''.cell? ⟨w2.heap.size + 1, 3, none⟩ = some (.int .i64 x2.r) ∧ w''.cell? ⟨w2.heap.size + 1, 4, none⟩ = some (.int .u64 (x2.k : Nat)) from fun w'' hw => ⟨(R0.out.later hw).cells.1, (R0.out.later hw).cells.2.1, (R0.out.later hw).cells.2.2.1, (R0.out.later hw).cells.2.2.2.1, (R0.out.later hw).cells.2.2.2.2, (R1.out.later hw).cells.1, (R1.out.later hw).cells.2.1, (R1.out.later hw).cells.2.2.1, (R1.out.later hw).cells.2.2.2.1, (R1.out.later hw).cells.2.2.2.2, (R2.out.later hw).cells.1, (R2.out.later hw).cells.2.1, (R2.out.later hw).cells.2.2.1, (R2.out.later hw).cells.2.2.2.1, (R2.out.later hw).cells.2.2.2.2⟩)
    repeat (first
      | ((with_reducible refine wpB_move ?_ ?_); exact rfl; simp only [Act.put, List.setIfInBounds_toArray, List.set_cons_zero, List.set_cons_succ])
      | ((with_reducible refine wpB_skip ?_ ?_); exact rfl; simp only [Act.put, List.setIfInBounds_toArray, List.set_cons_zero, List.set_cons_succ])
      | (apply wpB_call 16 #[.int .u64 (a : Nat), rdV x] rfl (v := _)
         · (intro w'; go_simp)
         · exact fun w' hw' => K1.out w'
         simp only [Act.put, List.setIfInBounds_toArray, List.set_cons_zero, List.set_cons_succ])
      | (apply wpB_call 16 #[.int .u64 (b : Nat), rdV x] rfl (v := _)
         · (intro w'; go_simp)
         · exact fun w' hw' => K2.out w'
         simp only [Act.put, List.setIfInBounds_toArray, List.set_cons_zero, List.set_cons_succ])
      | (apply wpB_call 16 #[.int .u64 (a : Nat), rdV z] rfl (v := _)
         · (intro w'; go_simp)
         · exact fun w' hw' => K3.out w'
         simp only [Act.put, List.setIfInBounds_toArray, List.set_cons_zero, List.set_cons_succ])
      | (apply wpB_call 16 #[.int .u64 (a : Nat), rdV x2] rfl (v := _)
         · (intro w'; go_simp)
         · exact fun w' hw' => K4.out w'
         simp only [Act.put, List.setIfInBounds_toArray, List.set_cons_zero, List.set_cons_succ])
      | (apply wpB_val rfl
         · (intro w' hw'; obtain ⟨c0, c1, c2, c3, c4, c5, c6, c7, c8, c9, c10, c11, c12, c13, c14⟩ := HCC.out w' hw'; go_simp; with_reducible rfl)
         simp only [Act.put, List.setIfInBounds_toArray, List.set_cons_zero, List.set_cons_succ]))
    refine wpB_nil (HR.out _ (fun w2 hw2 => ?_))
    clear HR HCC
    have HB3 := Lib.hid (below_step RB.out hw2)
    clear hw2
    go_wp2
    go_ret
    exact ⟨rfl, HB3.out⟩
end Go.Proofs.Ytckbooccgdddbaa
