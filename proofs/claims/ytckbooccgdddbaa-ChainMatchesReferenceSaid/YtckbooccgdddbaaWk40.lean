/- Chapter 40: head of the laws. -/
import Derived.Test.YtckbooccgdddbaaWj40
namespace Go.Proofs.Ytckbooccgdddbaa
open Go.RowKit
attribute [local go_sem] Oper.semAt_some

theorem s5 : 5 < 18446744073709551616 := by decide
def t1 : List Tri := [⟨7, 10, 100⟩, ⟨7, 20, 150⟩, ⟨7, 30, 150⟩, ⟨8, 30, 9000⟩, ⟨8, 40, 9020⟩]
def t2 : List Tri := [⟨7, 10, 100⟩, ⟨7, 9, 100⟩]
def t3 : List Tri := [⟨7, 10, 100⟩, ⟨7, 10, 99⟩]
def t4 : List Tri := [⟨7, 10, 100⟩, ⟨8, 11, 100⟩]
def t5 : List Tri := [⟨0, 10, 100⟩]
def g1 : List Rd := (rowG 5 s5 [] t1).1
theorem g1_len : (rowG 5 s5 [] t1).1.length = 5 := by decide +kernel
theorem g1_err : (rowG 5 s5 [] t1).2 = 0 := by decide +kernel
theorem g1_chk5 : chk 5 (rowG 5 s5 [] t1).1 = -1 := by decide +kernel
theorem g1_chk6 : chk 6 (rowG 5 s5 [] t1).1 = 0 := by decide +kernel
theorem g1_ap : apErr 6 (rowG 5 s5 [] t1).1 8 50 9020 = 11 := by decide +kernel
theorem nil_chk6 : chk 6 [] = -1 := by decide +kernel
theorem g1_en : enV (rowG 5 s5 [] t1).1 1 5 = .tuple #[.int .i64 70, .int .i64 0] := by kernel_rfl
theorem g1_en' : enV (rowG 5 s5 [] t1).1 2 1 = .tuple #[.int .i64 0, .int .i64 1] := by kernel_rfl
theorem g2_err : (rowG 5 s5 [] t2).2 = 12 ∧ (rowG 5 s5 [] t2).1.length = 0 := by decide +kernel
theorem g3_err : (rowG 5 s5 [] t3).2 = 12 ∧ (rowG 5 s5 [] t3).1.length = 0 := by decide +kernel
theorem g4_err : (rowG 5 s5 [] t4).2 = 6 ∧ (rowG 5 s5 [] t4).1.length = 0 := by decide +kernel
theorem g5_err : (rowG 5 s5 [] t5).2 = 1 ∧ (rowG 5 s5 [] t5).1.length = 0 := by decide +kernel

def triC (t : Tri) : List Value := [.int .i64 t.a, .int .i64 t.b, .int .i64 t.c]
theorem tris_new (w : World) (ty : TypeId) (ts : List Tri) : Tris (w.alloc (.cells (ts.flatMap triC).toArray ty)) (some ⟨w.heap.size, 0, none⟩) ts := by
  have hg : ∀ (ts : List Tri) (i : Nat) (t : Tri) (j : Nat), ts[i]? = some t → j < 3 → (ts.flatMap triC)[i * 3 + j]? = (triC t)[j]? := by
    intro ts
    induction ts with
    | nil => intro i t j h; simp at h
    | cons y ts ih =>
      intro i t j h hj
      rw [List.flatMap_cons]
      cases i with
      | zero =>
        simp only [List.getElem?_cons_zero, Option.some.injEq] at h
        subst h
        rw [List.getElem?_append_left (by simp [triC]; omega), Nat.zero_mul, Nat.zero_add]
      | succ i =>
        rw [List.getElem?_append_right (by simp [triC]; omega), show (i + 1) * 3 + j - (triC y).length = i * 3 + j by simp [triC]; omega]
        exact ih i t j (by simpa using h) hj
  intro i t ht
  have hb := Arr.new w ty (ts.flatMap triC)
  refine ⟨w.heap.size, 0, rfl, ?_, ?_, ?_⟩
  · rw [Nat.zero_add]; exact hb.cell (hg ts i t 0 ht (by omega))
  · rw [Nat.zero_add]; exact hb.cell (hg ts i t 1 ht (by omega))
  · rw [Nat.zero_add]; exact hb.cell (hg ts i t 2 ht (by omega))

set_option maxRecDepth 100000 in
set_option maxHeartbeats 4000000 in
theorem head_any (w : World) : Calls Try.prog 11 #[] w (Ret (.bool true) w) := by
  go_enter Try.func11, Try.ntmps11
  go_wp2_with fail
  refine (Calls.mono (show Calls Try.prog 22 #[.int .u64 5, .slice (some ⟨w.heap.size, 0, none⟩) 5 5] (w.alloc (.cells (t1.flatMap triC).toArray 45)) (RowOut 5 s5 t1 (w.alloc (.cells (t1.flatMap triC).toArray 45))) from row_any 5 _ 5 t1 _ s5 (tris_new w _ t1) (by decide)) ?_)
  rintro e w1 ⟨hb1, o1, c1, rfl, hr1⟩
  have h5 := g1_chk5
  have h6 := g1_chk6
  have hap := g1_ap
  have hen := g1_en
  have hen2 := g1_en'
  have gl := g1_len
  rw [g1_err]
  obtain ⟨G, hG⟩ : ∃ G, (rowG 5 s5 [] t1).1 = G := ⟨_, rfl⟩
  rw [hG] at h5 h6 hap hen hen2 gl hr1 ⊢
  clear hG
  rw [gl]
  have HB1 := Lib.hid (below_step (below_alloc0 w _) hb1)
  have HR1 := Lib.hid hr1
  have HH := Lib.hid (And.intro h5 (And.intro h6 (And.intro hap (And.intro hen (And.intro hen2 gl)))))
  clear h5 h6 hap hen hen2 gl hr1 hb1
  have EN : ∀ (a b : Int) (W : World), Below w1.heap.size w1 W → Calls Try.prog 14 #[.slice o1 5 c1, .int .i64 a, .int .i64 b] W (Ret (enV G a b) W) := fun a b W hW => by
    have := Energy_any o1 c1 G a b W (HR1.out.later hW) (by rw [HH.out.2.2.2.2.2]; decide)
    rw [HH.out.2.2.2.2.2] at this
    exact this
  have CK : ∀ (sd : Nat) (W : World), sd < 100 → Below w1.heap.size w1 W → Calls Try.prog 19 #[.int .u64 (sd : Nat), .slice o1 5 c1] W (Ret (.int .i64 (chk sd G)) W) := fun sd W hsd hW => by
    have := Check_any sd o1 c1 G W (by omega) (HR1.out.later hW) (by rw [HH.out.2.2.2.2.2]; decide)
    rw [HH.out.2.2.2.2.2] at this
    exact this
  have HEN := Lib.hid EN
  have HCK := Lib.hid CK
  clear EN CK
  go_wp2_with fail
  refine (HEN.out 1 5 w1 (Below.refl _ _)).mono ?_
  rintro e w2 ⟨rfl, hb2⟩
  rw [HH.out.2.2.2.1]
  have HB2 := Lib.hid hb2
  clear hb2
  go_wp2_with fail
  refine (Calls.mono (show Calls Try.prog 22 #[.int .u64 5, .slice (some ⟨w2.heap.size, 0, none⟩) 2 2] (w2.alloc (.cells (t2.flatMap triC).toArray 45)) (RowOut 5 s5 t2 (w2.alloc (.cells (t2.flatMap triC).toArray 45))) from row_any 5 _ 2 t2 _ s5 (tris_new w2 _ t2) (by decide)) ?_)
  rintro e w3 ⟨hb, oo2, cc2, rfl, _⟩
  rw [g2_err.1, g2_err.2]
  have HB3 := Lib.hid (below_step HB2.out (below_step (below_alloc0 w2 _) hb))
  clear hb
  go_wp2_with fail
  refine (Calls.mono (show Calls Try.prog 22 #[.int .u64 5, .slice (some ⟨w3.heap.size, 0, none⟩) 2 2] (w3.alloc (.cells (t3.flatMap triC).toArray 45)) (RowOut 5 s5 t3 (w3.alloc (.cells (t3.flatMap triC).toArray 45))) from row_any 5 _ 2 t3 _ s5 (tris_new w3 _ t3) (by decide)) ?_)
  rintro e w4 ⟨hb, oo3, cc3, rfl, _⟩
  rw [g3_err.1, g3_err.2]
  have HB4 := Lib.hid (below_step HB3.out (below_step (below_alloc0 w3 _) hb))
  clear hb
  go_wp2_with fail
  refine (Calls.mono (show Calls Try.prog 22 #[.int .u64 5, .slice (some ⟨w4.heap.size, 0, none⟩) 2 2] (w4.alloc (.cells (t4.flatMap triC).toArray 45)) (RowOut 5 s5 t4 (w4.alloc (.cells (t4.flatMap triC).toArray 45))) from row_any 5 _ 2 t4 _ s5 (tris_new w4 _ t4) (by decide)) ?_)
  rintro e w5 ⟨hb, oo4, cc4, rfl, _⟩
  rw [g4_err.1, g4_err.2]
  have HB5 := Lib.hid (below_step HB4.out (below_step (below_alloc0 w4 _) hb))
  clear hb
  go_wp2_with fail
  refine (Calls.mono (show Calls Try.prog 22 #[.int .u64 5, .slice (some ⟨w5.heap.size, 0, none⟩) 1 1] (w5.alloc (.cells (t5.flatMap triC).toArray 45)) (RowOut 5 s5 t5 (w5.alloc (.cells (t5.flatMap triC).toArray 45))) from row_any 5 _ 1 t5 _ s5 (tris_new w5 _ t5) (by decide)) ?_)
  rintro e w6 ⟨hb, oo5, cc5, rfl, _⟩
  rw [g5_err.1, g5_err.2]
  have HB6 := Lib.hid (below_step HB5.out (below_step (below_alloc0 w5 _) hb))
  clear hb
  go_wp2_with fail
  have HAP := (show Calls Try.prog 12 #[.int .u64 6, .slice o1 5 c1, .int .i64 8, .int .i64 50, .int .i64 9020] w6 (AppOut 6 G 8 50 9020 (by decide) w6) from by
    have := Append_any 6 o1 c1 G 8 50 9020 w6 (by decide) (HR1.out.later HB6.out) (by rw [HH.out.2.2.2.2.2]; decide)
    rw [HH.out.2.2.2.2.2] at this
    exact this)
  refine HAP.mono ?_
  clear HAP
  rintro e w7 ⟨hb, ⟨hne, rfl⟩ | ⟨he0, _⟩⟩
  rotate_left
  · rw [HH.out.2.2.1] at he0; cases he0
  rw [HH.out.2.2.1]
  have HB7 := Lib.hid (below_step HB6.out hb)
  clear hb hne
  go_wp2_with fail
  refine (HEN.out 2 1 w7 HB7.out).mono ?_
  rintro e w8 ⟨rfl, hb⟩
  rw [HH.out.2.2.2.2.1]
  have HB8 := Lib.hid (below_step HB7.out hb)
  clear hb
  go_wp2_with fail
  refine Calls.mono (HCK.out 5 w8 (by decide) HB8.out) ?_
  rintro e w9 ⟨rfl, hb⟩
  rw [HH.out.1]
  have HB9 := Lib.hid (below_step HB8.out hb)
  clear hb
  go_wp2_with fail
  refine Calls.mono (HCK.out 6 w9 (by decide) HB9.out) ?_
  rintro e w10 ⟨rfl, hb⟩
  rw [HH.out.2.1]
  have HB10 := Lib.hid (below_step HB9.out hb)
  clear hb
  go_wp2_with fail
  refine Calls.mono ((show Calls Try.prog 19 #[.int .u64 6, .slice none 0 0] w10 (Ret (.int .i64 (chk 6 [])) w10) from Check_any 6 none 0 [] w10 (by decide) Rds.nil (by decide))) ?_
  rintro e w11 ⟨rfl, hb⟩
  rw [nil_chk6]
  have HB11 := Lib.hid (below_step HB10.out hb)
  clear hb
  go_wp2
  go_ret
  exact ⟨rfl, below_step HB1.out HB11.out⟩
end Go.Proofs.Ytckbooccgdddbaa
