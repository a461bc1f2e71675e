/- Chapter 40: ChainSwaps. -/
import Derived.Test.YtckbooccgdddbaaWs40
import Derived.Test.YtckbooccgdddbaaWn40
import Derived.Test.YtckbooccgdddbaaPlainD40
namespace Go.Proofs.Ytckbooccgdddbaa
open Go.RowKit
attribute [local go_sem] Oper.semAt_some

theorem flat_set_r (L : List Rd) {k : Nat} (hk : k < L.length) (r' : Int) : (flat L).set (k * 5 + 3) (.int .i64 r') = flat (L.set k { getR L k with r := r' }) := by
  apply List.ext_getElem?
  intro j
  rw [List.getElem?_set]
  by_cases hj : j < L.length * 5
  · have hd : j = (j / 5) * 5 + j % 5 := by omega
    have hq : j / 5 < L.length := by omega
    have hm : j % 5 < 5 := Nat.mod_lt _ (by decide)
    have e1 : (flat (L.set k { getR L k with r := r' }))[j]? = (rdC (getR (L.set k { getR L k with r := r' }) (j / 5)))[j % 5]? := by
      have := flat_get (L.set k { getR L k with r := r' }) (j / 5) (j % 5) (by rw [List.length_set]; exact hq) hm
      rwa [← hd] at this
    have e2 : (flat L)[j]? = (rdC (getR L (j / 5)))[j % 5]? := by
      have := flat_get L (j / 5) (j % 5) hq hm
      rwa [← hd] at this
    rw [e1, e2, flat_length]
    by_cases hjk : j / 5 = k
    · have e3 : getR (L.set k { getR L k with r := r' }) (j / 5) = { getR L k with r := r' } := by rw [hjk]; simp [getR, hk]
      rw [e3, hjk]
      by_cases h3 : j % 5 = 3
      · rw [if_pos (by omega), if_pos (by omega), h3]; rfl
      · rw [if_neg (by omega)]
        rcases (by omega : j % 5 = 0 ∨ j % 5 = 1 ∨ j % 5 = 2 ∨ j % 5 = 4) with h | h | h | h <;> rw [h] <;> rfl
    · rw [if_neg (by omega)]
      have e3 : getR (L.set k { getR L k with r := r' }) (j / 5) = getR L (j / 5) := by simp [getR, List.getElem?_set_ne (Ne.symm hjk)]
      rw [e3]
  · rw [if_neg (by omega), List.getElem?_eq_none (by rw [flat_length]; omega), List.getElem?_eq_none (by rw [flat_length, List.length_set]; omega)]

/-- What the loop does to a reading. -/
def shW (serial more : Int) (x : Rd) : Rd := if x.s = serial then { x with r := wrap64 (x.r + more) } else x
theorem map_shW {serial more : Int} {l : List Rd} (h0 : 0 ≤ more) (h1 : more ≤ 1000000) (ho : ordered l = true) : l.map (shW serial more) = l.map (sh serial more) := by
  apply List.map_congr_left
  intro x hx
  obtain ⟨i, hi, rfl⟩ := List.getElem_of_mem hx
  have := getR_range ho hi
  rw [getR_eq hi] at this
  unfold shW sh
  split
  · rw [IntWalk.wrap64_in _ (by omega)]
  · rfl
theorem set_self {L : List Rd} {k : Nat} (hk : k < L.length) {x : Rd} (h : getR L k = x) : L.set k x = L := by
  rw [← h, getR_eq hk]
  exact List.set_getElem_self hk
theorem Row.rds' {w2 wr : World} {g cap n : Nat} {l : List Rd} (h : Row w2 wr 25 5 (.slice (some ⟨g, 0, none⟩) n cap) n (flat l)) (hn : l.length = n) : Rds wr (some ⟨g, 0, none⟩) l := by
  subst hn
  exact h.rds

theorem pe_sh {serial more : Int} {l : List Rd} (h0 : 0 ≤ more) (hle : ∀ x ∈ l, x.s = serial → x.r ≤ 1000000000 - more) (ho : ordered l = true) {i k : Nat} (h1 : 1 ≤ i) (h2 : i ≤ k) (h3 : k ≤ l.length) : pe (l.map (sh serial more)) i k = pe l i k ∧ pf (l.map (sh serial more)) = 0 := by
  have ho' := ordered_sh h0 hle ho
  unfold pe pf
  rw [ho, ho']
  simp only [if_true]
  exact ⟨energy_sh h1 (by omega), trivial⟩

set_option maxRecDepth 100000 in
set_option maxHeartbeats 4000000 in
theorem chainSwaps_any (o : Option Addr) (cap : Nat) (l : List Rd) (which : Nat) (more : Int) (a b : Nat) (w : World) (hr : Rds w o l) (hl : l.length ≤ 9223372036854775807) (hw : which < 256) (ha : a < 256) (hb : b < 256) :
    Calls Try.prog 10 #[.slice o l.length cap, .int .u8 (which : Nat), .int .i64 more, .int .u8 (a : Nat), .int .u8 (b : Nat)] w (Ret (.bool true) w) := by
  have HR := Lib.hid hr
  clear hr
  go_enter Try.func10, Try.ntmps10
  go_wp2_with fail
  refine (head_any w).mono ?_
  rintro e w1 ⟨rfl, hb1⟩
  have HB1 := Lib.hid hb1
  clear hb1
  by_cases h0 : l.length = 0
  · have h0' : (l.length : Int) = 0 := by omega
    go_wp2_with fail
    go_ret
    exact ⟨rfl, HB1.out⟩
  by_cases h64 : 64 < l.length
  · go_wp2_with fail
    go_ret
    exact ⟨rfl, HB1.out⟩
  have h0b : ((l.length : Int) == 0) = false := by rw [beq_eq_false_iff_ne]; omega
  by_cases hm0 : more < 0
  · go_wp2_with fail
    go_ret
    exact ⟨rfl, HB1.out⟩
  by_cases hm1 : 1000000 < more
  · go_wp2_with fail
    go_ret
    exact ⟨rfl, HB1.out⟩
  have q1 : (0 : Int) < (l.length : Int) := by omega
  have num : ∀ x : Nat, x < 256 → ∃ X : Nat, 1 ≤ X ∧ X ≤ l.length ∧ IntKind.i64.wrap (1 + (IntKind.i64.wrap (x : Int)).tmod (l.length : Int)) = (X : Int) := fun x hx => by
    have h1 := Nat.mod_lt x (show 0 < l.length by omega)
    have h2 := Nat.mod_le x l.length
    refine ⟨1 + x % l.length, by omega, by omega, ?_⟩
    rw [IntWalk.i64_in (x : Int) (by omega), ← Int.ofNat_tmod, IntWalk.i64_in _ (by omega)]
    simp
  obtain ⟨A, hA1, hA2, EA⟩ := num a ha
  obtain ⟨B, hB1, hB2, EB⟩ := num b hb
  replace EA := Lib.hid EA
  replace EB := Lib.hid EB
  clear num
  go_wp2_with fail
  refine wp_region_B 14 (fun w'' => Below w1.heap.size w1 w'') mixed (by kernel_rfl) (below_closed w1) (Below.refl _ _).drew ?_
  simp only [List.take_succ_cons, List.take_zero, List.drop_succ_cons, List.drop_zero]
  intro KR hR
  have HR := Lib.hid hR
  clear hR
  repeat (first
    | ((with_reducible refine wpB_move ?_ ?_); exact rfl; simp only [Act.put, List.setIfInBounds_toArray, List.set_cons_zero, List.set_cons_succ])
    | ((with_reducible refine wpB_skip ?_ ?_); exact rfl; simp only [Act.put, List.setIfInBounds_toArray, List.set_cons_zero, List.set_cons_succ])
    | (apply wpB_val rfl
       · (intro w' hw'; go_simp; with_reducible rfl)
       simp only [Act.put, List.setIfInBounds_toArray, List.set_cons_zero, List.set_cons_succ]))
  refine wpB_nil (HR.out _ (fun w2 hw2 => ?_))
  clear HR
  have HB2 := Lib.hid (below_step HB1.out hw2)
  clear hw2
  rw [EA.out, EB.out]
  obtain ⟨p, hp⟩ : ∃ p, which % l.length = p := ⟨_, rfl⟩
  have hpl : p < l.length := by rw [← hp]; exact Nat.mod_lt _ (by omega)
  have HP := Lib.hid (show (which : Int) % (l.length : Int) = (p : Int) by rw [← hp]; simp)
  clear hp
  obtain ⟨bb, off, hbo, hx⟩ := (HR.out.later HB2.out) p hpl
  subst hbo
  have HX := Lib.hid hx.1
  clear hx
  obtain ⟨serial, hser⟩ : ∃ s, (getR l p).s = s := ⟨_, rfl⟩
  rw [hser] at HX
  clear hser
  have HF := Lib.hid (flat_cells (HR.out.later (below_alloc HB2.out (.cells #[] 25))))
  have HN := Lib.hid (show 0 + l.length ≤ 1000000000 by omega)
  have HL := Lib.hid (flat_length l)
  have HO := Lib.hid (show ∀ u ∈ flat l, u.oneCell' = true from fun u hu => flat_one' hu)
  have HRW := Lib.hid (Row.lit (w2 := w2) (wr := w2) (e := 25) (size := 5) (Below.refl _ _) #[] 0 (by decide) rfl)
  have y1 : (0 : Int) ≤ (p : Int) := by omega
  have y2 : (p : Int) < (l.length : Int) := by omega
  have c0 := HX.out
  have HPP := HP.out
  go_wp2_with (at_builtin; refine wp_appendN (news := flat l) elemRd HRW.out HN.out (by decide) HL.out HO.out HF.out rfl _ _ rfl rfl rfl ?_)
  clear HPP c0
  intro v3 w3 hrow
  obtain ⟨g, cp, rfl, hg, _⟩ := hrow.some_of (by omega)
  have HR3 := Lib.hid hrow
  clear hrow HF HN HL HO HRW
  go_wp2_with fail
  go_loopw [65] (fun i wr => ∃ k : Nat, k ≤ l.length ∧ i = .int .i64 k ∧ Row w2 wr 25 5 (.slice (some ⟨g, 0, none⟩) l.length cp) l.length (flat (curF (shW serial more) l k)) ∧ (∀ j, j < k → (getR l j).s = serial → (getR l j).r ≤ 1000000000 - more)) (fun i _ => l.length - (intOf i).toNat)
  case atStart => exact ⟨0, Nat.zero_le _, rfl, HR3.out, fun j hj => absurd hj (by omega)⟩
  case round =>
    obtain ⟨k, hk, rfl, hrow, hle⟩ := hrel
    have HROW := Lib.hid hrow
    have HLE := Lib.hid hle
    have HCL := Lib.hid (curF_length (f := shW serial more) hk)
    clear hrow hle
    by_cases hlt : k < l.length
    · have HCS := Lib.hid (curF_succ (f := shW serial more) hlt)
      obtain ⟨b', off', hbo, hx⟩ := (HROW.out.rds' HCL.out) k (by rw [HCL.out]; exact hlt)
      cases hbo
      rw [Nat.zero_add] at hx
      have HGT := Lib.hid (curF_get (f := shW serial more) hlt)
      obtain ⟨L, hL⟩ : ∃ L, curF (shW serial more) l k = L := ⟨_, rfl⟩
      rw [hL] at HROW HCL HCS HGT hx
      clear hL
      obtain ⟨x, hxe⟩ : ∃ x, getR l k = x := ⟨_, rfl⟩
      rw [HGT.out, hxe] at hx
      rw [hxe] at HCS HGT
      have HXE := Lib.hid hxe
      clear hxe
      have z1 : (0 : Int) ≤ (k : Int) := by omega
      have z2 : (k : Int) < (l.length : Int) := by omega
      obtain ⟨c0, _, _, c3, _⟩ := hx
      by_cases hsx : x.s = serial
      · have hsb : (x.s == serial) = true := by simpa using hsx
        have HSX := Lib.hid hsx
        clear hsx
        by_cases hbig : 1000000000 - more < x.r
        · go_wp2
          go_ret
          exact ⟨rfl, below_step HB2.out HROW.out.below⟩
        · have f3 := HROW.out.frozenAt (k * 5 + 3)
          go_wp2
          clear c0 c3 f3
          go_roundw
          case rel =>
            refine ⟨k + 1, by omega, by go_num, ?_, fun j hj hjs => by rcases Nat.lt_or_eq_of_le (Nat.le_of_lt_succ hj) with h | rfl; exact HLE.out j h hjs; rw [HXE.out]; omega⟩
            have h1 := HROW.out.stored (k * 5 + 3) (.int .i64 (wrap64 (x.r + more)))
            rw [flat_set_r L (by rw [HCL.out]; exact hlt), HGT.out] at h1
            rw [HCS.out, show shW serial more x = { x with r := wrap64 (x.r + more) } from by unfold shW; rw [if_pos HSX.out]]
            exact h1
          case measure => simp [intOf]; omega
      · have hsb : (x.s == serial) = false := by simpa using hsx
        have HSX := Lib.hid hsx
        clear hsx
        go_wp2
        clear c0 c3
        go_roundw
        case rel => exact ⟨k + 1, by omega, by go_num, by rw [HCS.out, show shW serial more x = x from by unfold shW; rw [if_neg HSX.out], set_self (by rw [HCL.out]; exact hlt) HGT.out]; exact HROW.out, fun j hj hjs => by rcases Nat.lt_or_eq_of_le (Nat.le_of_lt_succ hj) with h | rfl; exact HLE.out j h hjs; exact absurd (HXE.out ▸ hjs) HSX.out⟩
        case measure => simp [intOf]; omega
    · obtain rfl : k = l.length := by omega
      have HM := Lib.hid (curF_all (shW serial more) l)
      obtain ⟨M, hM⟩ : ∃ M, l.map (shW serial more) = M := ⟨_, rfl⟩
      have HMS := Lib.hid (fun ho : ordered l = true => show M = l.map (sh serial more) by rw [← hM]; exact map_shW (by omega) (by omega) ho)
      rw [HM.out, hM] at HROW HCL
      clear hM HM
      have HLE2 := Lib.hid (show ∀ x ∈ l, x.s = serial → x.r ≤ 1000000000 - more from fun x hx hxs => by
        obtain ⟨j, hj, rfl⟩ := List.getElem_of_mem hx
        rw [← getR_eq hj] at hxs ⊢
        exact HLE.out j hj hxs)
      clear HLE
      have HE1 := Lib.hid (fun (x y : Nat) (W : World) (h : Below w.heap.size w W) => Energy_any (some ⟨bb, off, none⟩) cap l x y W (HR.out.later h) hl)
      have HE2 := Lib.hid (fun (x y : Nat) (W : World) (h : Below wr.heap.size wr W) => by
        have h1 := Energy_any (some ⟨g, 0, none⟩) cp M x y W ((HROW.out.rds' HCL.out).later h) (by rw [HCL.out]; exact hl)
        rw [HCL.out] at h1
        exact h1)
      have HB3 := Lib.hid (below_step HB2.out HROW.out.below)
      have HSH := Lib.hid (fun (ho : ordered l = true) (I K : Nat) (h1 : 1 ≤ I) (h2 : I ≤ K) (h3 : K ≤ l.length) => show pe M I K = pe l I K ∧ pf M = 0 by rw [HMS.out ho]; exact pe_sh (by omega) HLE2.out ho h1 h2 h3)
      have hML := HCL.out
      clear HROW HMS HLE2
      rcases Nat.lt_or_ge B A with hBA | hAB
      · go_wp2_with fail
        all_goals
          refine (en_call (HE1.out B A wr HB3.out) (by omega) (by omega)).mono ?_
          rintro e w4 ⟨rfl, hb4⟩
          rw [en_of (i := B) (k := A) (by omega) (by omega) (by omega)]
          have HB4 := Lib.hid hb4
          clear hb4
          go_wp2_with fail
          all_goals
            refine (en_call (HE2.out B A w4 HB4.out) (by omega) (by omega)).mono ?_
            rintro e w5 ⟨rfl, hb5⟩
            rw [en_of (i := B) (k := A) (by omega) (by omega) (by omega)]
            have HB5 := Lib.hid (below_step HB3.out (below_step HB4.out hb5))
            clear hb5
            cases ho : ordered l with
            | true =>
              obtain ⟨e1, e2⟩ := HSH.out ho B A (by omega) (by omega) (by omega)
              rw [e1, e2, show pf l = 0 from by unfold pf; rw [ho]; rfl]
              obtain ⟨Z, hZ⟩ : ∃ Z, pe l B A = Z := ⟨_, rfl⟩
              rw [hZ]
              clear hZ e1 e2
              go_wp2
              go_ret
              exact ⟨rfl, HB5.out⟩
            | false =>
              rw [show pf l = 1 from by unfold pf; rw [ho]; rfl]
              go_wp2
              go_ret
              exact ⟨rfl, HB5.out⟩
      · go_wp2_with fail
        all_goals
          refine (en_call (HE1.out A B wr HB3.out) (by omega) (by omega)).mono ?_
          rintro e w4 ⟨rfl, hb4⟩
          rw [en_of (i := A) (k := B) (by omega) (by omega) (by omega)]
          have HB4 := Lib.hid hb4
          clear hb4
          go_wp2_with fail
          all_goals
            refine (en_call (HE2.out A B w4 HB4.out) (by omega) (by omega)).mono ?_
            rintro e w5 ⟨rfl, hb5⟩
            rw [en_of (i := A) (k := B) (by omega) (by omega) (by omega)]
            have HB5 := Lib.hid (below_step HB3.out (below_step HB4.out hb5))
            clear hb5
            cases ho : ordered l with
            | true =>
              obtain ⟨e1, e2⟩ := HSH.out ho A B (by omega) (by omega) (by omega)
              rw [e1, e2, show pf l = 0 from by unfold pf; rw [ho]; rfl]
              obtain ⟨Z, hZ⟩ : ∃ Z, pe l A B = Z := ⟨_, rfl⟩
              rw [hZ]
              clear hZ e1 e2
              go_wp2
              go_ret
              exact ⟨rfl, HB5.out⟩
            | false =>
              rw [show pf l = 1 from by unfold pf; rw [ho]; rfl]
              go_wp2
              go_ret
              exact ⟨rfl, HB5.out⟩
end Go.Proofs.Ytckbooccgdddbaa
