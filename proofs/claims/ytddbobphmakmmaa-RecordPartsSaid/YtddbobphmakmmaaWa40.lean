/- Chapter 40: the small functions; bytesOf; Link. -/
import Derived.Test.YtddbobphmakmmaaSl
import Derived.Test.YtddbobphmakmmaaRows
import Derived.Test.YtddbobphmakmmaaArr
import Derived.Test.YtddbobphmakmmaaKitB
import Derived.Handy
import Derived.Deep.RegionWith
import Derived.Deep.QuietTactic
import Derived.BigQuiet
import Derived.Deep.Cut
import Derived.Test.YtddbobphmakmmaaPlain40
namespace Go.Proofs.Ytddbobphmakmmaa
open Go.RowKit

theorem mixed : Try.prog.follows .mixedOrders = true := by kernel_rfl
theorem ret_int {k : IntKind} {a b : Int} (h : a = b) : Ending.returned (.int k a) = .returned (.int k b) := by rw [h]
theorem ret_bool {a b : Bool} (h : a = b) : Ending.returned (.bool a) = .returned (.bool b) := by rw [h]

def inBand (n a b : Int) : Bool := decide (a ≤ n ∧ n ≤ b)

set_option maxHeartbeats 400000 in
theorem inside_any (n a b : Int) (w : World) : Calls Try.prog 39 #[.int .i64 n, .int .i64 a, .int .i64 b] w fun e w' => e = .returned (.bool (inBand n a b)) ∧ w' = w := by
  go_enter Try.func39, Try.ntmps39
  go_wp2
  all_goals
    go_ret
    refine ⟨ret_bool ?_, rfl⟩
    rw [Bool.eq_iff_iff]
    simp only [inBand, decide_eq_true_eq, Bool.false_eq_true, false_iff]
    omega

@[reducible] def rdV (x : Rd) : Value := .agg #[.int .i64 x.s, .int .i64 x.n, .int .i64 x.m, .int .i64 x.r, .int .u64 x.k]

set_option maxHeartbeats 1000000 in
theorem valid_any (x : Rd) (w : World) : Calls Try.prog 33 #[rdV x] w (Ret (.bool (validR x)) w) := by
  go_enter Try.func33, Try.ntmps33
  go_wp2_with (go_at_call 39; refine (inside_any _ _ _ _).mono ?_; rintro e w' ⟨rfl, rfl⟩)
  all_goals
    go_ret
    refine ⟨ret_bool ?_, by go_grown⟩
    rw [Bool.eq_iff_iff]
    simp only [validR, inBand, decide_eq_true_eq, decide_eq_false_iff_not, Bool.false_eq_true, false_iff] at *
    omega

set_option maxHeartbeats 1000000 in
theorem isOld_any (b x : Rd) (w : World) : Calls Try.prog 34 #[rdV b, rdV x] w (Ret (.bool (oldR b x)) w) := by
  go_enter Try.func34, Try.ntmps34
  go_wp2
  all_goals
    go_ret
    refine ⟨ret_bool ?_, by go_grown⟩
    rw [Bool.eq_iff_iff]
    simp only [oldR, decide_eq_true_eq, Bool.false_eq_true, true_iff, false_iff] at *
    omega

set_option maxHeartbeats 1000000 in
theorem isLater_any (b x : Rd) (w : World) : Calls Try.prog 35 #[rdV b, rdV x] w (Ret (.bool (laterR b x)) w) := by
  go_enter Try.func35, Try.ntmps35
  go_wp2
  all_goals
    go_ret
    refine ⟨ret_bool ?_, by go_grown⟩
    rw [Bool.eq_iff_iff]
    simp_all [laterR]

def bV (x : Rd) : List Value := (bytesR x).map (fun b => Value.int .u8 (b : Nat))
theorem bV_length (x : Rd) : (bV x).length = 32 := by simp [bV, bytesR_length]
def numAt (x : Rd) (i : Nat) : Int := if i = 0 then x.s else if i = 1 then x.n else if i = 2 then x.m else x.r
theorem bV_at (x : Rd) {i k : Nat} (hi : i < 4) (hk : k < 8) : (bV x)[8 * i + k]? = some (.int .u8 (byteAt (numAt x i) k : Nat)) := by
  unfold bV
  rw [List.getElem?_map]
  have h8 : ∀ n, (bytes8 n).length = 8 := fun n => by simp [bytes8]
  have hb : (bytesR x)[8 * i + k]? = some (byteAt (numAt x i) k) := by
    unfold bytesR
    have g : ∀ n, (bytes8 n)[k]? = some (byteAt n k) := fun n => by simp [bytes8, hk]
    rcases (by omega : i = 0 ∨ i = 1 ∨ i = 2 ∨ i = 3) with rfl | rfl | rfl | rfl
    · rw [List.append_assoc, List.append_assoc, List.getElem?_append_left (by rw [h8]; omega), show 8 * 0 + k = k by omega]; exact g _
    · rw [List.append_assoc, List.append_assoc, List.getElem?_append_right (by rw [h8]; omega), h8, List.getElem?_append_left (by rw [h8]; omega), show 8 * 1 + k - 8 = k by omega]; exact g _
    · rw [List.append_assoc, List.getElem?_append_right (by rw [List.length_append, h8, h8]; omega), List.length_append, h8, h8, List.getElem?_append_left (by rw [h8]; omega), show 8 * 2 + k - (8 + 8) = k by omega]; exact g _
    · rw [List.getElem?_append_right (by simp only [List.length_append, h8]; omega)]
      simp only [List.length_append, h8]
      rw [show 8 * 3 + k - (8 + 8 + 8) = k by omega]; exact g _
  rw [hb]
  rfl

theorem byte_wrap (n : Int) (k : Nat) : IntKind.u64.wrap n / 2 ^ (56 - 8 * k) % 256 = ((byteAt n k : Nat) : Int) := by
  unfold byteAt u64
  rw [IntKind.wrap_u64, Nat.shiftRight_eq_div_pow, Int.natCast_emod, Int.natCast_ediv, Int.natCast_pow, Int.toNat_of_nonneg (Int.emod_nonneg _ (by decide))]
  rfl

/-- What bytesOf has made: the result's array, the other one, of which the first c bytes are right. -/
structure BySt (w wr : World) (x : Rd) (L : List Value) (c : Nat) : Prop where
  r2 : ∃ Z : List Value, Z.length = 32 ∧ Arr wr (w.heap.size + 1) 65 Z
  r3 : Arr wr (w.heap.size + 1 + 1) 65 L
  len : L.length = 32
  bel : Below w.heap.size w wr
  right : ∀ j, j < c → L[j]? = (bV x)[j]?

theorem BySt.put {w wr : World} {x : Rd} {L : List Value} {c : Nat} (h : BySt w wr x L c) {u : Value} (hc : c < 32) (hu : (bV x)[c]? = some u) : BySt w (wr.setCell ⟨w.heap.size + 1 + 1, c, none⟩ u) x (L.set c u) (c + 1) := by
  obtain ⟨Z, hZ, hr2⟩ := h.r2
  refine ⟨⟨Z, hZ, hr2.other (by simp) _⟩, h.r3.set c u, by rw [List.length_set]; exact h.len, h.bel.setCell (by simp; omega) _, fun j hj => ?_⟩
  rw [List.getElem?_set]
  split
  · rename_i e
    subst e
    rw [if_pos (by rw [h.len]; exact hc), hu]
  · exact h.right j (by omega)

set_option maxRecDepth 100000 in
set_option maxHeartbeats 8000000 in
theorem bytesOf_any (x : Rd) (w : World) : Calls Try.prog 38 #[rdV x] w (Ret (.agg (bV x).toArray) w) := by
  have i0 : ∀ w, (Instr.index 48 (.agg #[.int .i64 x.s, .int .i64 x.n, .int .i64 x.m, .int .i64 x.r]) (.int .i64 0)).run Try.prog w = .ok (.int .i64 x.s) w := fun _ => by kernel_rfl
  have i1 : ∀ w, (Instr.index 48 (.agg #[.int .i64 x.s, .int .i64 x.n, .int .i64 x.m, .int .i64 x.r]) (.int .i64 1)).run Try.prog w = .ok (.int .i64 x.n) w := fun _ => by kernel_rfl
  have i2 : ∀ w, (Instr.index 48 (.agg #[.int .i64 x.s, .int .i64 x.n, .int .i64 x.m, .int .i64 x.r]) (.int .i64 2)).run Try.prog w = .ok (.int .i64 x.m) w := fun _ => by kernel_rfl
  have i3 : ∀ w, (Instr.index 48 (.agg #[.int .i64 x.s, .int .i64 x.n, .int .i64 x.m, .int .i64 x.r]) (.int .i64 3)).run Try.prog w = .ok (.int .i64 x.r) w := fun _ => by kernel_rfl
  go_enter Try.func38, Try.ntmps38
  go_wp2
  go_loopw [16] (fun u wr => ∃ i : Int, 0 ≤ i ∧ i ≤ 4 ∧ u = .int .i64 i ∧ ∃ L, BySt w wr x L (8 * i.toNat)) (fun u _ => 4 - (intOf u).toNat)
  case atStart =>
    refine ⟨0, by omega, by omega, rfl, List.replicate 32 (.int .u8 0), ⟨List.replicate 32 (.int .u8 0), by simp, ?_⟩, ?_, by simp, by go_grown, fun j hj => absurd hj (by omega)⟩
    · exact Arr.alloc (by have := Arr.new (w.alloc (.cells #[.int .i64 x.s, .int .i64 x.n, .int .i64 x.m, .int .i64 x.r, .int .u64 x.k] 45)) 65 (List.replicate 32 (.int .u8 0)); rw [World.size_alloc] at this; exact this) _
    · have := Arr.new ((w.alloc (.cells #[.int .i64 x.s, .int .i64 x.n, .int .i64 x.m, .int .i64 x.r, .int .u64 x.k] 45)).alloc (.cells (List.replicate 32 (.int .u8 0)).toArray 65)) 65 (List.replicate 32 (.int .u8 0))
      rw [World.size_alloc, World.size_alloc] at this
      exact this
  case round =>
    obtain ⟨i, hi0, hi, rfl, L, hst⟩ := hrel
    have HST := Lib.hid hst
    clear hst
    by_cases hlt : i < 4
    · rcases (by omega : i = 0 ∨ i = 1 ∨ i = 2 ∨ i = 3) with rfl | rfl | rfl | rfl
      · have HST2 : Hid (BySt w wr x L 0) := HST
        go_wp2
        obtain ⟨wo, rfl⟩ : ∃ wo : World, wo = wr := ⟨_, rfl⟩
        clear i0 i1 i2 i3
        go_loopw [20] (fun u wr => ∃ k : Nat, k ≤ 8 ∧ u = .int .i64 k ∧ ∃ L, BySt w wr x L (k)) (fun u _ => 8 - (intOf u).toNat)
        case atStart => exact ⟨0, by omega, rfl, L, HST2.out⟩
        case round =>
          obtain ⟨k, hk, rfl, L2, hst2⟩ := hrel
          have HS := Lib.hid hst2
          clear hst2
          by_cases hk8 : k < 8
          · have hL2 : L2.length = 32 := HS.out.len
            obtain ⟨u, hu⟩ : ∃ u, L2[k]? = some u := ⟨_, List.getElem?_eq_getElem (by omega)⟩
            have c1 := HS.out.r3.cell hu
            have f1 := HS.out.r3.frozen (k)
            clear hu hL2
            have s1 : 0 ≤ 56 - 8 * (k : Int) := by omega
            have s2 : 56 - 8 * (k : Int) < 64 := by omega
            have e0 : k < 32 := by omega
            have e1 : ((k : Int)).toNat = k := by omega
            have HU : Hid ((bV x)[k]? = some (.int .u8 (IntKind.u64.wrap x.s / 2 ^ (56 - 8 * k) % 256))) := Lib.hid (by rw [byte_wrap]; have := bV_at x (i := 0) (by omega) hk8; rwa [show 8 * 0 + k = k by omega] at this)
            go_wp2
            go_roundw
            case rel => exact ⟨k + 1, by omega, by go_num, _, by
              have := HS.out.put e0 HU.out
              exact this⟩
            case measure => simp [intOf]; omega
          · obtain rfl : k = 8 := by omega
            go_wp2
            go_roundw
            case rel => exact ⟨1, by omega, by omega, rfl, L2, HS.out⟩
            case measure => simp [intOf]
      · have HST2 : Hid (BySt w wr x L 8) := HST
        go_wp2
        obtain ⟨wo, rfl⟩ : ∃ wo : World, wo = wr := ⟨_, rfl⟩
        clear i0 i1 i2 i3
        go_loopw [20] (fun u wr => ∃ k : Nat, k ≤ 8 ∧ u = .int .i64 k ∧ ∃ L, BySt w wr x L (8 + k)) (fun u _ => 8 - (intOf u).toNat)
        case atStart => exact ⟨0, by omega, rfl, L, HST2.out⟩
        case round =>
          obtain ⟨k, hk, rfl, L2, hst2⟩ := hrel
          have HS := Lib.hid hst2
          clear hst2
          by_cases hk8 : k < 8
          · have hL2 : L2.length = 32 := HS.out.len
            obtain ⟨u, hu⟩ : ∃ u, L2[8 + k]? = some u := ⟨_, List.getElem?_eq_getElem (by omega)⟩
            have c1 := HS.out.r3.cell hu
            have f1 := HS.out.r3.frozen (8 + k)
            clear hu hL2
            have s1 : 0 ≤ 56 - 8 * (k : Int) := by omega
            have s2 : 56 - 8 * (k : Int) < 64 := by omega
            have e0 : 8 + k < 32 := by omega
            have e1 : (8 + (k : Int)).toNat = 8 + k := by omega
            have HU : Hid ((bV x)[8 + k]? = some (.int .u8 (IntKind.u64.wrap x.n / 2 ^ (56 - 8 * k) % 256))) := Lib.hid (by rw [byte_wrap]; have := bV_at x (i := 1) (by omega) hk8; rwa [show 8 * 1 + k = 8 + k by omega] at this)
            go_wp2
            go_roundw
            case rel => exact ⟨k + 1, by omega, by go_num, _, by
              have := HS.out.put e0 HU.out
              exact this⟩
            case measure => simp [intOf]; omega
          · obtain rfl : k = 8 := by omega
            go_wp2
            go_roundw
            case rel => exact ⟨2, by omega, by omega, rfl, L2, HS.out⟩
            case measure => simp [intOf]
      · have HST2 : Hid (BySt w wr x L 16) := HST
        go_wp2
        obtain ⟨wo, rfl⟩ : ∃ wo : World, wo = wr := ⟨_, rfl⟩
        clear i0 i1 i2 i3
        go_loopw [20] (fun u wr => ∃ k : Nat, k ≤ 8 ∧ u = .int .i64 k ∧ ∃ L, BySt w wr x L (16 + k)) (fun u _ => 8 - (intOf u).toNat)
        case atStart => exact ⟨0, by omega, rfl, L, HST2.out⟩
        case round =>
          obtain ⟨k, hk, rfl, L2, hst2⟩ := hrel
          have HS := Lib.hid hst2
          clear hst2
          by_cases hk8 : k < 8
          · have hL2 : L2.length = 32 := HS.out.len
            obtain ⟨u, hu⟩ : ∃ u, L2[16 + k]? = some u := ⟨_, List.getElem?_eq_getElem (by omega)⟩
            have c1 := HS.out.r3.cell hu
            have f1 := HS.out.r3.frozen (16 + k)
            clear hu hL2
            have s1 : 0 ≤ 56 - 8 * (k : Int) := by omega
            have s2 : 56 - 8 * (k : Int) < 64 := by omega
            have e0 : 16 + k < 32 := by omega
            have e1 : (16 + (k : Int)).toNat = 16 + k := by omega
            have HU : Hid ((bV x)[16 + k]? = some (.int .u8 (IntKind.u64.wrap x.m / 2 ^ (56 - 8 * k) % 256))) := Lib.hid (by rw [byte_wrap]; have := bV_at x (i := 2) (by omega) hk8; rwa [show 8 * 2 + k = 16 + k by omega] at this)
            go_wp2
            go_roundw
            case rel => exact ⟨k + 1, by omega, by go_num, _, by
              have := HS.out.put e0 HU.out
              exact this⟩
            case measure => simp [intOf]; omega
          · obtain rfl : k = 8 := by omega
            go_wp2
            go_roundw
            case rel => exact ⟨3, by omega, by omega, rfl, L2, HS.out⟩
            case measure => simp [intOf]
      · have HST2 : Hid (BySt w wr x L 24) := HST
        go_wp2
        obtain ⟨wo, rfl⟩ : ∃ wo : World, wo = wr := ⟨_, rfl⟩
        clear i0 i1 i2 i3
        go_loopw [20] (fun u wr => ∃ k : Nat, k ≤ 8 ∧ u = .int .i64 k ∧ ∃ L, BySt w wr x L (24 + k)) (fun u _ => 8 - (intOf u).toNat)
        case atStart => exact ⟨0, by omega, rfl, L, HST2.out⟩
        case round =>
          obtain ⟨k, hk, rfl, L2, hst2⟩ := hrel
          have HS := Lib.hid hst2
          clear hst2
          by_cases hk8 : k < 8
          · have hL2 : L2.length = 32 := HS.out.len
            obtain ⟨u, hu⟩ : ∃ u, L2[24 + k]? = some u := ⟨_, List.getElem?_eq_getElem (by omega)⟩
            have c1 := HS.out.r3.cell hu
            have f1 := HS.out.r3.frozen (24 + k)
            clear hu hL2
            have s1 : 0 ≤ 56 - 8 * (k : Int) := by omega
            have s2 : 56 - 8 * (k : Int) < 64 := by omega
            have e0 : 24 + k < 32 := by omega
            have e1 : (24 + (k : Int)).toNat = 24 + k := by omega
            have HU : Hid ((bV x)[24 + k]? = some (.int .u8 (IntKind.u64.wrap x.r / 2 ^ (56 - 8 * k) % 256))) := Lib.hid (by rw [byte_wrap]; have := bV_at x (i := 3) (by omega) hk8; rwa [show 8 * 3 + k = 24 + k by omega] at this)
            go_wp2
            go_roundw
            case rel => exact ⟨k + 1, by omega, by go_num, _, by
              have := HS.out.put e0 HU.out
              exact this⟩
            case measure => simp [intOf]; omega
          · obtain rfl : k = 8 := by omega
            go_wp2
            go_roundw
            case rel => exact ⟨4, by omega, by omega, rfl, L2, HS.out⟩
            case measure => simp [intOf]
    · obtain rfl : i = 4 := by omega
      obtain ⟨Z, hZ, hr2⟩ := HST.out.r2
      obtain rfl : bV x = L := by
        apply List.ext_getElem?
        intro j
        rcases Nat.lt_or_ge j 32 with hj | hj
        · exact (HST.out.right j (by omega)).symm
        · rw [List.getElem?_eq_none (by rw [bV_length]; exact hj), List.getElem?_eq_none (by rw [HST.out.len]; exact hj)]
      have HZ2 := Lib.hid hr2
      have HZL := Lib.hid (show (bV x).length = Z.length by rw [hZ, bV_length])
      have HINF : Hid ((Try.prog.info? 65).map (·.size) = some (bV x).length) := Lib.hid (by rw [bV_length]; kernel_rfl)
      have HINF2 : Hid ((Try.prog.info? 65).map (·.size) = some (bV x).toArray.size) := Lib.hid (by rw [List.size_toArray, bV_length]; kernel_rfl)
      have HONE : Hid ((bV x).toArray.all (·.oneCell') = true) := Lib.hid (all_oneCell_toArray (fun v hv => by obtain ⟨b, _, rfl⟩ := List.mem_map.1 hv; rfl))
      clear hr2 hZ i0 i1 i2 i3
      go_upto_region 11 with (fail)
      refine wp_region_lit ?_
      refine wpList_load_mid rfl 65 _ rfl (w.heap.size + 1 + 1) 0 rfl (bV x) _ HST.out.r3.range Try.underlying65 rfl HINF.out ?_
      simp only [Act.put, List.setIfInBounds_toArray, List.set_cons_zero, List.set_cons_succ]
      refine wpList_store_mid rfl 65 _ _ rfl (w.heap.size + 1) 0 (bV x).toArray rfl rfl (HZ2.out.there HZL.out) HINF2.out HONE.out ?_
      simp only [Act.put]
      refine wpList_nil ?_
      have HA : Hid (Arr (wr.setCells (w.heap.size + 1) 0 (bV x).toArray.toList) (w.heap.size + 1) 65 (bV x)) := Lib.hid (HZ2.out.stored HZL.out)
      have HB : Hid (Below w.heap.size w (wr.setCells (w.heap.size + 1) 0 (bV x).toArray.toList)) := Lib.hid (below_setCells HST.out.bel (by omega) _ _)
      generalize wr.setCells (w.heap.size + 1) 0 (bV x).toArray.toList = wz at HA HB
      go_wp2
      refine bodyPost_ret (v := .agg (bV x).toArray) ?_ rfl ⟨rfl, HB.out⟩
      have hl := run_loadVar_mid (P := Try.prog) wz (w.heap.size + 1) 0 65 (bV x) _ HA.out.range Try.underlying65 rfl HINF.out
      simp [results, Try.results38]
      exact hl

end Go.Proofs.Ytddbobphmakmmaa
