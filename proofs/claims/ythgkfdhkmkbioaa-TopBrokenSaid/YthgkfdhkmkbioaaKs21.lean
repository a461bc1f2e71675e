/- Package replan: Keep. -/
import Derived.Test.YthgkfdhkmkbioaaKr21
namespace Go.Proofs.Ythgkfdhkmkbioaa
open Go.RowKit Go.Shelf
attribute [local go_sem] Oper.semAt_some

/-- What Keep hands over. -/
structure KeepOut (w w' : World) (J : List Jb) (S : List Int) (e : Ending) : Prop where
  bel : Below w.heap.size w w'
  ex : ∃ (K : List Nat) (CL : List Ct) (kv cv : Value) (vs : List (Value × Value)), e = .returned (.tuple #[kv, cv, .int .i64 0]) ∧ KeepsF J S [] [] (ordN J) K CL ∧ w'.ownsRow w.heap.size 3 1 kv K.length (intsV (natI K)) ∧ CutsM w.heap.size w' cv CL vs
/-- Keep's loop. -/
def KpI (w wr : World) (KB JB SB CB : Nat) (J : List Jb) (S : List Int) (oj os : Option Addr) (cj cs : Nat) (ov : Value) (k : Nat) : Prop :=
  ∃ K CL kv cv, KeM w wr KB JB SB CB oj J.length cj os S.length cs ov (ordJ J) K CL kv cv ∧ KeptOk J S K k ∧ K.length + CL.length = k ∧ ∀ K' CL', KeepsF J S K CL ((ordN J).drop k) K' CL' → KeepsF J S [] [] (ordN J) K' CL'
theorem KpI.next {w wr : World} {KB JB SB CB : Nat} {J : List Jb} {S : List Int} {oj os : Option Addr} {cj cs : Nat} {ov : Value} {k : Nat} {K : List Nat} {CL : List Ct} {kv cv : Value} {e : Ending} (hk : k < J.length) (h1 : KeptOk J S K k) (h2 : K.length + CL.length = k) (h3 : ∀ K' CL', KeepsF J S K CL ((ordN J).drop k) K' CL' → KeepsF J S [] [] (ordN J) K' CL') (h : TryOut w KB JB SB CB J S oj os cj cs ov (ordJ J) K CL kv cv ((ordN J).getD k 0) e wr) : KpI w wr KB JB SB CB J S oj os cj cs ov (k + 1) := by
  have hkl : k < (ordN J).length := by rw [ordN_len]; exact hk
  rcases h.2 with ⟨hf, kv', hm⟩ | ⟨cl, tl, cv', hc, hn, hm⟩
  · exact ⟨_, _, _, _, hm, h1.keep hk hf, by rw [List.length_append, List.length_singleton]; omega, fun K' CL' h => h3 K' CL' ((keeps_drop hkl).2 (.inl ⟨hf, h⟩))⟩
  · exact ⟨_, _, _, _, hm, h1.skip hk, by rw [List.length_append, List.length_singleton]; omega, fun K' CL' h => h3 K' CL' ((keeps_drop hkl).2 (.inr ⟨cl, tl, hc, hn, h⟩))⟩
set_option maxRecDepth 100000 in
set_option maxHeartbeats 16000000 in
theorem keep_any (w : World) (J : List Jb) (S : List Int) (oj os : Option Addr) (cj cs : Nat) (hj : JobsM w oj J) (hs : Ints w os S) (hv : ValidP J S) :
    Calls Try.prog 13 #[.slice oj J.length cj, .slice os S.length cs] w (fun e w' => KeepOut w w' J S e) := by
  have HJ := Lib.hid hj
  have HS := Lib.hid hs
  have HV := Lib.hid hv
  have HVB := Lib.hid (validP_iff.2 hv)
  have hn12 := hv.j12
  clear hj hs hv
  go_enter Try.func13, Try.ntmps13
  go_upto_region 1 with (fail)
  obtain ⟨W1, hW1⟩ : ∃ W, W = (w.alloc (.cells #[.slice oj J.length cj] 22)).alloc (.cells #[.slice os S.length cs] 23) := ⟨_, rfl⟩
  have HB1 := Lib.hid (show Below w.heap.size w W1 by rw [hW1]; exact below_alloc (below_alloc (Below.refl _ _) _) _)
  have HP1 := Lib.hid (show Blk W1 w.heap.size 22 #[.slice oj J.length cj] by rw [hW1]; exact (Blk.new ..).alloc _)
  have HK1 := Lib.hid (show Blk W1 (w.heap.size + 1) 23 #[.slice os S.length cs] by
    rw [hW1]
    have := Blk.new (w.alloc (.cells #[.slice oj J.length cj] 22)) 23 #[.slice os S.length cs]
    rwa [World.size_alloc] at this)
  rw [← hW1]
  clear hW1
  have p1 := HP1.out.cell 0
  have q1 := HK1.out.cell 0
  have HVA := Lib.hid (pvalid_any J S oj os cj cs W1 (HJ.out.later HB1.out) (HS.out.later HB1.out))
  rw [HVB.out] at HVA
  go_wp2_with fail
  refine HVA.out.mono ?_
  rintro _ W2 ⟨rfl, hb2⟩
  have HB2 := Lib.hid (below_step HB1.out hb2)
  have HP2 := Lib.hid (HP1.out.later hb2)
  have HK2 := Lib.hid (HK1.out.later hb2)
  have HSZ2 := Lib.hid (show w.heap.size + 1 < W2.heap.size from (HK1.out.later hb2).lt)
  clear hb2 HVA HB1 HP1 HK1 p1 q1
  go_upto_region 6 with (fail)
  obtain ⟨W3, hW3⟩ : ∃ W, W = (W2.alloc (.cells #[.slice none 0 0] 23)).alloc (.cells #[.slice none 0 0] 44) := ⟨_, rfl⟩
  have hb3 : Below W2.heap.size W2 W3 := by rw [hW3]; exact below_alloc (below_alloc (Below.refl _ _) _) _
  have HKB := Lib.hid (show Blk W3 W2.heap.size 23 #[.slice none 0 0] by rw [hW3]; exact (Blk.new ..).alloc _)
  have HCB := Lib.hid (show Blk W3 (W2.heap.size + 1) 44 #[.slice none 0 0] by
    rw [hW3]
    have := Blk.new (W2.alloc (.cells #[.slice none 0 0] 23)) 44 #[.slice none 0 0]
    rwa [World.size_alloc] at this)
  have HB3 := Lib.hid (below_step HB2.out hb3)
  have HP3 := Lib.hid (HP2.out.later hb3)
  have HK3 := Lib.hid (HK2.out.later hb3)
  rw [← hW3]
  clear hW3 hb3 HB2 HP2 HK2
  obtain ⟨KB, hKB⟩ : ∃ x, W2.heap.size = x := ⟨_, rfl⟩
  obtain ⟨CB, hCB⟩ : ∃ x, W2.heap.size + 1 = x := ⟨_, rfl⟩
  have HLOW := Lib.hid (show KB ≠ w.heap.size + 1 ∧ w.heap.size ≤ KB ∧ w.heap.size ≤ CB by have := HSZ2.out; omega)
  rw [hCB] at HCB ⊢
  rw [hKB] at HKB ⊢
  clear hKB hCB HSZ2
  have p3 := HP3.out.cell 0
  have HIO := Lib.hid (inOrder_any J oj cj W3 (HJ.out.later HB3.out) hn12)
  go_wp2_with fail
  refine HIO.out.mono ?_
  rintro _ W4 ⟨hb4, ov, rfl, hro⟩
  have HB4 := Lib.hid (below_step HB3.out hb4)
  have HKI : Hid (KpI w W4 KB w.heap.size (w.heap.size + 1) CB J S oj os cj cs ov 0) := Lib.hid ⟨[], [], .slice none 0 0, .slice none 0 0, ⟨below_step HB3.out hb4, HKB.out.later hb4, HP3.out.later hb4, HK3.out.later hb4, HCB.out.later hb4, HLOW.out.1, HLOW.out.2, World.ownsRow_nil .., fun _ => rfl, ⟨[], CutsM.nil _ _⟩, hro.mono HB3.out.size⟩, KeptOk.zero HV.out, rfl, fun K' CL' h => h⟩
  obtain ⟨oo, oc, rfl, _⟩ := ownsRow_shapeQ hro
  have HOL := Lib.hid (ordJ_len J)
  clear hb4 hro HIO HB3 HP3 HK3 HKB HCB p3 HB4
  rw [HOL.out] at HKI ⊢
  go_wp2_with fail
  go_loopw [20] (fun iv wr => ∃ k : Nat, k ≤ J.length ∧ iv = .int .i64 k ∧ KpI w wr KB w.heap.size (w.heap.size + 1) CB J S oj os cj cs (.slice oo J.length oc) k) (fun iv _ => J.length - (intOf iv).toNat)
  case atStart => exact ⟨0, Nat.zero_le _, rfl, HKI.out⟩
  case round =>
    obtain ⟨k, hk, rfl, hki⟩ := hrel
    obtain ⟨wA, rfl⟩ : ∃ wA : World, wA = wr := ⟨_, rfl⟩
    clear HKI
    obtain ⟨K, CL, kv, cv, hm, hko, hkc, hnx⟩ := hki
    have HM := Lib.hid hm
    have HKO := Lib.hid hko
    have HKC := Lib.hid hkc
    have HNX := Lib.hid hnx
    clear hm hko hkc hnx
    by_cases hlt : k < J.length
    · have horr := HM.out.orr
      rw [HOL.out] at horr
      have hio := row_ints horr
      have HFA := Lib.hid (HKO.out.facts hlt)
      obtain ⟨b, off, rfl, c0⟩ := hio k (by rw [HOL.out]; exact hlt)
      rw [← ordN_int, natI_get (by rw [ordN_len]; exact hlt)] at c0
      have HTR := Lib.hid (try_any w wA KB w.heap.size (w.heap.size + 1) CB J S oj os cj cs (.slice (some ⟨b, off, none⟩) J.length oc) (ordJ J) K CL kv cv ((ordN J).getD k 0) HM.out (HJ.out.later HM.out.bel) (HS.out.later HM.out.bel) HV.out HFA.out HKO.out.feas (by have := HKC.out; omega))
      have HNE := Lib.hid (fun e wr (h : TryOut w KB w.heap.size (w.heap.size + 1) CB J S oj os cj cs (.slice (some ⟨b, off, none⟩) J.length oc) (ordJ J) K CL kv cv ((ordN J).getD k 0) e wr) => KpI.next hlt HKO.out HKC.out HNX.out h)
      obtain ⟨x, hx⟩ : ∃ x, (ordN J).getD k 0 = x := ⟨_, rfl⟩
      rw [hx] at c0 HTR HNE
      clear hx horr hio
      have y1 : (0 : Int) ≤ (k : Int) := by omega
      have y2 : (k : Int) < (J.length : Int) := by omega
      go_wp2_with fail
      refine HTR.out.mono ?_
      intro e W5 ht
      have HKI := Lib.hid (HNE.out e W5 ht)
      obtain rfl := ht.1
      clear ht HTR HNE c0 HM HKO HKC HNX
      go_wp2
      go_round
      case rel => exact ⟨k + 1, hlt, by go_num, HKI.out⟩
      case measure => exact meas_lt hlt
    · obtain rfl : k = J.length := by omega
      have HFI := Lib.hid (HNX.out K CL (by rw [List.drop_of_length_le (by rw [ordN_len]; exact Nat.le_refl _)]; exact ⟨rfl, rfl⟩))
      have k0 := HM.out.kb.cell 0
      have d0 := HM.out.cb.cell 0
      clear HNX
      go_wp2_with fail
      go_quiet (fail)
      go_wp2
      have hbd := below_drewN (Below.refl wA.heap.size wA) nq
      obtain ⟨vs, hcm⟩ := HM.out.cm
      exact bodyPost_ret (v := .tuple #[kv, cv, .int .i64 0]) (by simp [results, Try.results13, go_sem]) rfl ⟨below_step HM.out.bel hbd, K, CL, kv, cv, vs, rfl, HFI.out, ownsRow_later HM.out.kr hbd, hcm.later hbd⟩
end Go.Proofs.Ythgkfdhkmkbioaa
