/- replan.explains: a cut that explains why a job was not kept. -/
import Derived.Test.YthgkfdhkmkbioaaKs21
import Derived.Test.YthgkfdhkmkbioaaPm21
namespace Go.Proofs.Ythgkfdhkmkbioaa
open Go.RowKit Go.Shelf
attribute [local go_sem] Oper.semAt_some

theorem natI_mem {l : List Nat} {x : Nat} : ((x : Nat) : Int) ∈ natI l ↔ x ∈ l := by
  unfold natI
  rw [List.mem_map]
  refine ⟨fun ⟨y, hy, e⟩ => ?_, fun h => ⟨x, h, rfl⟩⟩
  obtain rfl : y = x := by omega
  exact hy
set_option maxRecDepth 100000 in
set_option maxHeartbeats 8000000 in
theorem explains_ok (w : World) (J : List Jb) (S : List Int) (cl tl K : List Nat) (i : Nat) (oj os o1 o2 ok : Option Addr) (cj cs k1 k2 ck : Nat) (hj : JobsM w oj J) (hs : Ints w os S) (h1 : Ints w o1 (natI cl)) (h2 : Ints w o2 (natI tl)) (hk : Ints w ok (natI K)) (hv : ValidP J S) (hc : CutFor J S K i cl tl) (hK : K.length ≤ 1000) (hi : i ≤ 1000) :
    Calls Try.prog 34 #[.slice oj J.length cj, .slice os S.length cs, .agg #[.slice o1 cl.length k1, .slice o2 tl.length k2], .int .i64 (i : Nat), .slice ok K.length ck] w (Ret (.bool true) w) := by
  obtain ⟨W1, hW1⟩ : ∃ W, W = w.alloc (.cells #[.slice o1 cl.length k1, .slice o2 tl.length k2] 30) := ⟨_, rfl⟩
  have hb1 : Below w.heap.size w W1 := by rw [hW1]; exact below_alloc (Below.refl _ _) _
  have HX := Lib.hid (show Blk W1 w.heap.size 30 #[.slice o1 cl.length k1, .slice o2 tl.length k2] by rw [hW1]; exact Blk.new ..)
  have HCC := Lib.hid (checkCut_ok W1 J S cl tl oj os o1 o2 cj cs k1 k2 (hj.later hb1) (hs.later hb1) (h1.later hb1) (h2.later hb1) hv hc.c1 hc.c2 hc.cut)
  have HB1 := Lib.hid hb1
  have HI1 := Lib.hid (h1.later hb1)
  have HKI := Lib.hid (hk.later hb1)
  have HC := Lib.hid hc
  have hcl12 := hc.c1.len
  have hn12 := hv.j12
  have HBD := Lib.hid (fun k (hk : k < cl.length) => hc.c1.get hk)
  have HSUB := Lib.hid (fun k (hk : k < cl.length) => hc.sub (cl.getD k 0) (by rw [List.getD_eq_getElem?_getD, List.getElem?_eq_getElem hk]; exact List.getElem_mem hk))
  clear hj hs h1 h2 hk hv hc hb1
  go_enter Try.func34, Try.ntmps34
  go_upto_region 1 with (fail)
  rw [← hW1]
  clear hW1
  have x0 : W1.cell? ⟨w.heap.size, 0, none⟩ = some (.slice o1 cl.length k1) := HX.out.cell 0
  have x1 : W1.cell? ⟨w.heap.size, 1, none⟩ = some (.slice o2 tl.length k2) := HX.out.cell 1
  go_wp2_with fail
  refine HCC.out.mono ?_
  rintro _ W2 ⟨rfl, hb2⟩
  have HB2 := Lib.hid (below_step HB1.out hb2)
  have HX2 := Lib.hid (HX.out.later hb2)
  have HI2 := Lib.hid (HI1.out.later hb2)
  have HK2 := Lib.hid (HKI.out.later hb2)
  have y0 : W2.cell? ⟨w.heap.size, 0, none⟩ = some (.slice o1 cl.length k1) := HX2.out.cell 0
  have HCO := Lib.hid (contains_any o1 k1 (natI cl) (i : Nat) W2 HI2.out (by rw [natI_length]; omega))
  rw [natI_length, decide_eq_true (natI_mem.2 HC.out.mem)] at HCO
  clear hb2 x0 x1 HX HI1 HKI HB1 HCC
  go_wp2_with fail
  refine HCO.out.mono ?_
  rintro _ _ ⟨rfl, rfl⟩
  clear HCO
  go_wp2_with fail
  go_loopw [28] (fun iv wr => ∃ k : Nat, k ≤ cl.length ∧ iv = .int .i64 k ∧ wr = W2) (fun iv _ => cl.length - (intOf iv).toNat)
  case atStart => exact ⟨0, Nat.zero_le _, rfl, rfl⟩
  case round =>
    obtain ⟨k, hk, rfl, rfl⟩ := hrel
    by_cases hlt : k < cl.length
    · obtain ⟨b, off, rfl, c0⟩ := HI2.out k (by rw [natI_length]; exact hlt)
      rw [natI_get hlt] at c0
      have hbd := HBD.out k hlt
      have HSU := Lib.hid (HSUB.out k hlt)
      obtain ⟨x, hx⟩ : ∃ x, cl.getD k 0 = x := ⟨_, rfl⟩
      rw [hx] at c0 hbd HSU
      clear hx
      have z1 : (0 : Int) ≤ (k : Int) := by omega
      have z2 : (k : Int) < (cl.length : Int) := by omega
      by_cases hxi : x = i
      · subst hxi
        go_wp2
        go_round
        case rel => exact ⟨k + 1, hlt, by go_num, trivial⟩
        case measure => exact meas_lt hlt
      · have hne : ((x : Int) != (i : Int)) = true := bne_iff_ne.2 (by omega)
        have hne2 : (x != i) = true := bne_iff_ne.2 hxi
        have hxK : x ∈ K := by
          rcases HSU.out with h | h
          · exact absurd h hxi
          · exact h
        have HCO := Lib.hid (contains_any ok ck (natI K) (x : Nat) wr HK2.out (by rw [natI_length]; exact hK))
        rw [natI_length, decide_eq_true (natI_mem.2 hxK)] at HCO
        clear hxK
        go_wp2_with fail
        refine HCO.out.mono ?_
        rintro _ _ ⟨rfl, rfl⟩
        clear HCO
        go_wp2
        go_round
        case rel => exact ⟨k + 1, hlt, by go_num, trivial⟩
        case measure => exact meas_lt hlt
    · obtain rfl : k = cl.length := by omega
      go_wp2
      go_ret
      exact ⟨rfl, HB2.out⟩
end Go.Proofs.Ythgkfdhkmkbioaa
