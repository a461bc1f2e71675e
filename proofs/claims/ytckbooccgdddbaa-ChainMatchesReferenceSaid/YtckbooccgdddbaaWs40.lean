/- Chapter 40: a copy of readings in a row of the call's own; ChainOneItem. -/
import Derived.Test.YtckbooccgdddbaaWo40
import Derived.Test.YtckbooccgdddbaaRowN
import Derived.IntWalk
namespace Go.Proofs.Ytckbooccgdddbaa
open Go.RowKit
attribute [local go_sem] Oper.semAt_some

/-- A row of the call's own that holds readings. -/
theorem Row.rds {w2 wr : World} {g cap : Nat} {l : List Rd} (h : Row w2 wr 25 5 (.slice (some ⟨g, 0, none⟩) l.length cap) l.length (flat l)) : Rds wr (some ⟨g, 0, none⟩) l := by
  refine rds_flat.2 (fun j u hj => ?_)
  have hlt : j < l.length * 5 := by
    have := (List.getElem?_eq_some_iff.1 hj).1
    rwa [flat_length] at this
  rw [Nat.zero_add, h.cellAt j hlt]
  exact hj

theorem flat_cells {w : World} {b off : Nat} {l : List Rd} (h : Rds w (some ⟨b, off, none⟩) l) : ∀ j u, (flat l)[j]? = some u → w.cell? ((⟨b, off, none⟩ : Addr).add j) = some u := fun j u hj => by
  rw [Addr.add_lit]
  exact rds_flat.1 h j u hj

/-- A reading that is changed does not have its link any more. -/
theorem chg_wrong (x : Rd) {which q y : Nat} (hy : y < 256) (h0 : 0 < y) {s : Nat} (hs : s < 18446744073709551616) : ¬ (link s (chg x which q y) = link s x ↔ (chg x which q y).k = x.k) := by
  by_cases h : which % 5 = 4
  · have hd := dOf_lt (q := q) hy
    have e : chg x which q y = { x with k := (x.k ^^^ dOf q y) % 18446744073709551616, hk := Nat.mod_lt _ (by decide) } := by
      unfold chg
      rw [if_neg (by omega), if_neg (by omega), if_neg (by omega), if_neg (by omega)]
    intro h1
    have h2 := h1.1 (by rw [e]; exact link_of_nums rfl rfl rfl rfl s)
    rw [e] at h2
    have h3 : (x.k ^^^ dOf q y) % 18446744073709551616 = x.k := h2
    rw [Nat.mod_eq_of_lt (Nat.xor_lt_two_pow (n := 64) x.hk hd)] at h3
    refine xor_self_ne ?_ h3
    unfold dOf
    exact Nat.ne_of_gt (Nat.mul_pos h0 (Nat.pow_pos (by decide)))
  · have hl := link_off (s := s) (k := q % 8) (by omega) hy (chg_off x (which := which) (q := q) hy h) hs
    have hk : (chg x which q y).k = x.k := by
      unfold chg
      split
      · rfl
      split
      · rfl
      split
      · rfl
      split
      · rfl
      · omega
    rw [hl, hk]
    simp only [iff_true]
    omega

theorem flat_set (L : List Rd) {k : Nat} (hk : k < L.length) (z : Rd) : ((((((flat L).set (k * 5) (.int .i64 z.s)).set (k * 5 + 1) (.int .i64 z.n)).set (k * 5 + 2) (.int .i64 z.m)).set (k * 5 + 3) (.int .i64 z.r)).set (k * 5 + 4) (.int .u64 (z.k : Nat))) = flat (L.set k z) := by
  apply List.ext_getElem?
  intro j
  simp only [List.getElem?_set, List.length_set, flat_length]
  by_cases hj : j < L.length * 5
  · have hd : j = (j / 5) * 5 + j % 5 := by omega
    have hq : j / 5 < L.length := by omega
    have hm : j % 5 < 5 := Nat.mod_lt _ (by decide)
    have e1 : (flat (L.set k z))[j]? = (rdC (getR (L.set k z) (j / 5)))[j % 5]? := by
      have := flat_get (L.set k z) (j / 5) (j % 5) (by rw [List.length_set]; exact hq) hm
      rwa [← hd] at this
    have e2 : (flat L)[j]? = (rdC (getR L (j / 5)))[j % 5]? := by
      have := flat_get L (j / 5) (j % 5) hq hm
      rwa [← hd] at this
    rw [e1, e2]
    by_cases hjk : j / 5 = k
    · have e3 : getR (L.set k z) (j / 5) = z := by rw [hjk]; simp [getR, hk]
      rw [e3]
      rcases (by omega : j % 5 = 0 ∨ j % 5 = 1 ∨ j % 5 = 2 ∨ j % 5 = 3 ∨ j % 5 = 4) with h | h | h | h | h
      · rw [if_neg (by omega), if_neg (by omega), if_neg (by omega), if_neg (by omega), if_pos (by omega), if_pos (by omega), h]; rfl
      · rw [if_neg (by omega), if_neg (by omega), if_neg (by omega), if_pos (by omega), if_pos (by omega), h]; rfl
      · rw [if_neg (by omega), if_neg (by omega), if_pos (by omega), if_pos (by omega), h]; rfl
      · rw [if_neg (by omega), if_pos (by omega), if_pos (by omega), h]; rfl
      · rw [if_pos (by omega), if_pos (by omega), h]; rfl
    · have e3 : getR (L.set k z) (j / 5) = getR L (j / 5) := by simp [getR, List.getElem?_set_ne (Ne.symm hjk)]
      rw [e3, if_neg (by omega), if_neg (by omega), if_neg (by omega), if_neg (by omega), if_neg (by omega)]
  · rw [if_neg (by omega), if_neg (by omega), if_neg (by omega), if_neg (by omega), if_neg (by omega), List.getElem?_eq_none (by rw [flat_length]; omega), List.getElem?_eq_none (by rw [flat_length, List.length_set]; omega)]

set_option maxRecDepth 100000 in
set_option maxHeartbeats 4000000 in
theorem chainOneItem_any (seed : Nat) (o : Option Addr) (cap : Nat) (l : List Rd) (i which q y : Nat) (w : World) (hs : seed < 18446744073709551616) (hr : Rds w o l) (hl : l.length ≤ 9223372036854775807) (hi : i < 256) (hw : which < 256) (hq : q < 256) (hy : y < 256) :
    Calls Try.prog 5 #[.int .u64 (seed : Nat), .slice o l.length cap, .int .u8 (i : Nat), .int .u8 (which : Nat), .int .u8 (q : Nat), .int .u8 (y : Nat)] w (Ret (.bool true) w) := by
  have HR := Lib.hid hr
  clear hr
  go_enter Try.func5, Try.ntmps5
  go_wp2_with fail
  refine (head_any w).mono ?_
  rintro e w1 ⟨rfl, hb1⟩
  have HB1 := Lib.hid hb1
  clear hb1
  by_cases h0 : l.length = 0
  · have h0' : (l.length : Int) = 0 := by omega
    go_wp2_with fail
    go_ret
    exact ⟨rfl, HB1.out⟩
  by_cases h64 : 64 < l.length
  · go_wp2_with fail
    go_ret
    exact ⟨rfl, HB1.out⟩
  by_cases hy0 : y = 0
  · have hy0' : (y : Int) = 0 := by omega
    go_wp2_with fail
    go_ret
    exact ⟨rfl, HB1.out⟩
  have hyb : ((y : Int) == 0) = false := by rw [beq_eq_false_iff_ne]; omega
  have h0b : ((l.length : Int) == 0) = false := by rw [beq_eq_false_iff_ne]; omega
  have q1 : (0 : Int) < (l.length : Int) := by omega
  go_wp2_with fail
  refine (Check_any seed o cap l w1 hs (HR.out.later HB1.out) hl).mono ?_
  rintro e w2 ⟨rfl, hb2⟩
  have HB2 := Lib.hid (below_step HB1.out hb2)
  clear hb2
  by_cases hc : chk seed l = -1
  rotate_left
  · have hcb : (chk seed l == -1) = false := by simpa using hc
    go_wp2
    go_ret
    exact ⟨rfl, HB2.out⟩
  rw [hc]
  obtain ⟨p, hp⟩ : ∃ p, i % l.length = p := ⟨_, rfl⟩
  have hpl : p < l.length := by rw [← hp]; exact Nat.mod_lt _ (by omega)
  have HP := Lib.hid (show (i : Int) % (l.length : Int) = (p : Int) by rw [← hp]; simp)
  clear hp
  obtain ⟨b, off, hbo, _⟩ := HR.out p hpl
  subst hbo
  have HF := Lib.hid (flat_cells (HR.out.later (below_alloc HB2.out (.cells #[] 25))))
  have HN := Lib.hid (show 0 + l.length ≤ 1000000000 by omega)
  have HL := Lib.hid (flat_length l)
  have HO := Lib.hid (show ∀ u ∈ flat l, u.oneCell' = true from fun u hu => flat_one' hu)
  have HRW := Lib.hid (Row.lit (w2 := w2) (wr := w2) (e := 25) (size := 5) (Below.refl _ _) #[] 0 (by decide) rfl)
  go_wp2_with (at_builtin; refine wp_appendN (news := flat l) elemRd HRW.out HN.out (by decide) HL.out HO.out HF.out rfl _ _ rfl rfl rfl ?_)
  intro v3 w3 hrow
  obtain ⟨g, cp, rfl, hg, _⟩ := hrow.some_of (by omega)
  have HR3 := Lib.hid hrow
  have HB3 := Lib.hid (below_step HB2.out hrow.below)
  clear hrow HF HN HL HO HRW
  rw [HP.out]
  obtain ⟨b', off', hbo, hx⟩ := HR3.out.rds p hpl
  cases hbo
  rw [Nat.zero_add] at hx
  obtain ⟨x, hxe⟩ : ∃ x, getR l p = x := ⟨_, rfl⟩
  rw [hxe] at hx
  have y1 : (0 : Int) ≤ (p : Int) := by omega
  have y2 : (p : Int) < (l.length : Int) := by omega
  obtain ⟨c0, c1, c2, c3, c4⟩ := hx
  go_wp2_with fail
  clear c0 c1 c2 c3 c4
  have HCH := Lib.hid (chk_off (x' := chg x which q y) hpl hc (fun s hs' => by rw [hs', ← getR_eq hpl, hxe]; exact chg_wrong x hy (Nat.pos_of_ne_zero hy0) (stAt_lt hs l p)))
  clear hxe
  refine (changed_any x which q y w3 hw hq hy).mono ?_
  rintro e w4 ⟨rfl, hb4⟩
  obtain ⟨z, hz⟩ : ∃ z, chg x which q y = z := ⟨_, rfl⟩
  rw [hz] at HCH ⊢
  clear hz
  have HR4 := Lib.hid (HR3.out.later hb4)
  have HB4 := Lib.hid (below_step HB3.out hb4)
  clear hb4
  obtain ⟨b', off', hbo, hx⟩ := HR4.out.rds p hpl
  cases hbo
  rw [Nat.zero_add] at hx
  obtain ⟨c0, c1, c2, c3, c4⟩ := hx
  have f0 := HR4.out.frozenAt (p * 5)
  have f1 := HR4.out.frozenAt (p * 5 + 1)
  have f2 := HR4.out.frozenAt (p * 5 + 2)
  have f3 := HR4.out.frozenAt (p * 5 + 3)
  have f4 := HR4.out.frozenAt (p * 5 + 4)
  go_wp2_with fail
  clear c0 c1 c2 c3 c4 f0 f1 f2 f3 f4
  have hrow := ((((HR4.out.stored (p * 5) (.int .i64 z.s)).stored (p * 5 + 1) (.int .i64 z.n)).stored (p * 5 + 2) (.int .i64 z.m)).stored (p * 5 + 3) (.int .i64 z.r)).stored (p * 5 + 4) (.int .u64 (z.k : Nat))
  rw [flat_set l hpl z] at hrow
  have hln : (l.set p z).length = l.length := List.length_set ..
  have HCK := Lib.hid (fun W (h : Row w2 W 25 5 (.slice (some ⟨g, 0, none⟩) l.length cp) l.length (flat (l.set p z))) => by
    have h1 := Check_any seed (some ⟨g, 0, none⟩) cp (l.set p z) W hs (Row.rds (by rw [hln]; exact h)) (by rw [hln]; exact hl)
    rw [hln] at h1
    exact h1)
  rw [HCH.out] at HCK
  have HB5 := Lib.hid (below_step HB2.out hrow.below)
  refine (HCK.out _ hrow).mono ?_
  clear hrow HCK hln
  rintro e w6 ⟨rfl, hb6⟩
  have HB6 := Lib.hid (below_step HB5.out hb6)
  clear hb6
  go_wp2
  go_ret
  exact ⟨rfl, HB6.out⟩
end Go.Proofs.Ytckbooccgdddbaa
