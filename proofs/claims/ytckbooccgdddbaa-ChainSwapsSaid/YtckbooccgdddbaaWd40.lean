/- Chapter 40: the reference's Check, Ordered, Same, Energy. -/
import Derived.Test.YtckbooccgdddbaaWc40
namespace Go.Proofs.Ytckbooccgdddbaa
open Go.RowKit

theorem stAt_zero (seed : Nat) (l : List Rd) : stAt seed l 0 = seed := rfl
theorem stAt_succ (seed : Nat) {l : List Rd} {k : Nat} (hk : k < l.length) : stAt seed l (k + 1) = (getR l k).k := by
  unfold stAt prevAt
  rw [if_neg (by omega), Nat.add_sub_cancel, getR_some hk]
theorem stAt_lt {seed : Nat} (hs : seed < 18446744073709551616) (l : List Rd) (k : Nat) : stAt seed l k < 18446744073709551616 := by
  unfold stAt
  split
  · exact hs
  · rename_i b _
    exact b.hk
theorem rightAt_get {seed : Nat} {l : List Rd} {k : Nat} (hk : k < l.length) : rightAt seed l k = (okAt l k && decide ((getR l k).k = link (stAt seed l k) (getR l k))) := by
  unfold rightAt
  rw [getR_some hk]

set_option maxHeartbeats 4000000 in
theorem refCheck_any (seed : Nat) (o : Option Addr) (cap : Nat) (l : List Rd) (w : World) (hs : seed < 18446744073709551616) (hr : Rds w o l) (hl : l.length ≤ 9223372036854775807) : Calls Try.prog 20 #[.int .u64 (seed : Nat), .slice o l.length cap] w (Ret (.int .i64 (chk seed l)) w) := by
  have HRD := Lib.hid hr
  clear hr
  obtain ⟨V, hV⟩ : ∃ V, chk seed l = V := ⟨_, rfl⟩
  rw [hV]
  have HV := Lib.hid hV
  clear hV
  go_enter Try.func20, Try.ntmps20
  go_wp2
  go_loopw [0, 5] (fun u i wr => ∃ k z : Nat, k ≤ l.length ∧ i = .int .i64 k ∧ u = .int .u64 (z : Nat) ∧ z = stAt seed l k ∧ (∀ j, j < k → rightAt seed l j = true) ∧ Below w.heap.size w wr) (fun _ i _ => l.length - (intOf i).toNat)
  case atStart => exact ⟨0, seed, Nat.zero_le _, rfl, rfl, rfl, fun j hj => absurd hj (by omega), Below.refl _ _⟩
  case round =>
    obtain ⟨k, z, hk, rfl, rfl, hz, hri, hb⟩ := hrel
    have HZ := Lib.hid hz
    have HRI := Lib.hid hri
    have HB := Lib.hid hb
    have hzl : z < 18446744073709551616 := by rw [hz]; exact stAt_lt hs l k
    clear hz hri hb
    by_cases hlt : k < l.length
    · have HF := Lib.hid (fun (w' : World) (h : Below wr.heap.size wr w') => fits_any o cap l k w' (HRD.out.later (below_step HB.out h)) hlt hl)
      obtain ⟨b, off, hbo, hx⟩ := (HRD.out.later HB.out) k hlt
      subst hbo
      have HG := Lib.hid (rightAt_get (seed := seed) hlt)
      have HSS := Lib.hid (stAt_succ seed hlt)
      obtain ⟨x, hxe⟩ : ∃ x, getR l k = x := ⟨_, rfl⟩
      rw [hxe] at hx HG HSS
      have HX := Lib.hid hx
      clear hx hxe
      rw [← HZ.out] at HG
      have HL := Lib.hid (fun w' => refLink_any z x hzl w')
      obtain ⟨L, hL⟩ : ∃ L, link z x = L := ⟨_, rfl⟩
      rw [hL] at HG HL
      clear hL
      obtain ⟨v, hv⟩ : ∃ v, okAt l k = v := ⟨_, rfl⟩
      rw [hv] at HG HF
      clear hv
      have y1 : (0 : Int) ≤ (k : Int) := by omega
      have y2 : (k : Int) < (l.length : Int) := by omega
      cases v with
      | false =>
        have HC := Lib.hid (isChk_uniq (Or.inr ⟨k, hlt, rfl, by rw [HG.out]; rfl, HRI.out⟩) (HV.out ▸ chk_is seed l))
        go_wp2_with fail
        refine wp_region_B 18 (fun w'' => Below wr.heap.size wr w'') mixed (by kernel_rfl) (below_closed wr) (Below.refl _ _).drew ?_
        simp only [List.take_succ_cons, List.take_zero, List.drop_succ_cons, List.drop_zero]
        intro KR hR
        have HR := Lib.hid hR
        clear hR
        repeat (first
          | ((with_reducible refine wpB_move ?_ ?_); exact rfl; simp only [Act.put, List.setIfInBounds_toArray, List.set_cons_zero, List.set_cons_succ])
          | ((with_reducible refine wpB_skip ?_ ?_); exact rfl; simp only [Act.put, List.setIfInBounds_toArray, List.set_cons_zero, List.set_cons_succ])
          | (apply wpB_call 32 #[.slice (some ⟨b, off, none⟩) l.length cap, .int .i64 (k : Nat)] rfl (v := .bool false)
             · (intro w'; go_simp)
             · exact fun w' hw' => HF.out w' hw'
             simp only [Act.put, List.setIfInBounds_toArray, List.set_cons_zero, List.set_cons_succ])
          | (apply wpB_val rfl
             · (intro w' hw'; go_simp; with_reducible rfl)
             simp only [Act.put, List.setIfInBounds_toArray, List.set_cons_zero, List.set_cons_succ]))
        refine wpB_nil (HR.out _ (fun w2 hw2 => ?_))
        clear HR
        have HB2 := Lib.hid (below_step HB.out hw2)
        clear hw2
        go_wp2
        go_ret
        exact ⟨by rw [← HC.out]; rfl, HB2.out⟩
      | true =>
        by_cases hkL : x.k = L
        · subst hkL
          have hright : rightAt seed l k = true := by rw [HG.out]; simp
          have HRT := Lib.hid hright
          clear hright
          go_wp2_with fail
          refine wp_region_B 18 (fun w'' => Below wr.heap.size wr w'') mixed (by kernel_rfl) (below_closed wr) (Below.refl _ _).drew ?_
          simp only [List.take_succ_cons, List.take_zero, List.drop_succ_cons, List.drop_zero]
          intro KR hR
          have HR := Lib.hid hR
          clear hR
          have HCC := Lib.hid (show ∀ w'', Below wr.heap.size wr w'' → w''.cell? ⟨b, off + k * 5, none⟩ = some (.int .i64 x.s) ∧ w''.cell? ⟨b, off + k * 5 + 1, none⟩ = some (.int .i64 x.n) ∧ w''.cell? ⟨b, off + k * 5 + 2, none⟩ = some (.int .i64 x.m) ∧ w''.cell? ⟨b, off + k * 5 + 3, none⟩ = some (.int .i64 x.r) ∧ w''.cell? ⟨b, off + k * 5 + 4, none⟩ = some (.int .u64 x.k) from fun w'' hw => ⟨(HX.out.later hw).1, (HX.out.later hw).2.1, (HX.out.later hw).2.2.1, (HX.out.later hw).2.2.2.1, (HX.out.later hw).2.2.2.2⟩)
          repeat (first
            | ((with_reducible refine wpB_move ?_ ?_); exact rfl; simp only [Act.put, List.setIfInBounds_toArray, List.set_cons_zero, List.set_cons_succ])
            | ((with_reducible refine wpB_skip ?_ ?_); exact rfl; simp only [Act.put, List.setIfInBounds_toArray, List.set_cons_zero, List.set_cons_succ])
            | (apply wpB_call 32 #[.slice (some ⟨b, off, none⟩) l.length cap, .int .i64 (k : Nat)] rfl (v := .bool true)
               · (intro w'; go_simp)
               · exact fun w' hw' => HF.out w' hw'
               simp only [Act.put, List.setIfInBounds_toArray, List.set_cons_zero, List.set_cons_succ])
            | (apply wpB_call 17 #[.int .u64 (z : Nat), rdV x] rfl (v := .int .u64 (x.k : Nat))
               · (intro w'; go_simp)
               · exact fun w' hw' => HL.out w'
               simp only [Act.put, List.setIfInBounds_toArray, List.set_cons_zero, List.set_cons_succ])
            | (apply wpB_val rfl
               · (intro w' hw'; obtain ⟨c0, c1, c2, c3, c4⟩ := HCC.out w' hw'; go_simp; with_reducible rfl)
               simp only [Act.put, List.setIfInBounds_toArray, List.set_cons_zero, List.set_cons_succ]))
          refine wpB_nil (HR.out _ (fun w2 hw2 => ?_))
          clear HR HCC
          have HB2 := Lib.hid (below_step HB.out hw2)
          have c4 := (HX.out.later hw2).2.2.2.2
          clear hw2
          go_wp2
          go_roundw
          case rel => exact ⟨k + 1, _, by omega, by go_num, rfl, HSS.out.symm, fun j hj => by rcases Nat.lt_or_eq_of_le (Nat.le_of_lt_succ hj) with h | rfl; exact HRI.out j h; exact HRT.out, HB2.out⟩
          case measure => simp [intOf]; omega
        · have hkI : ¬ (x.k : Int) = (L : Int) := by omega
          have HC := Lib.hid (isChk_uniq (Or.inr ⟨k, hlt, rfl, by rw [HG.out]; simp [hkL], HRI.out⟩) (HV.out ▸ chk_is seed l))
          go_wp2_with fail
          refine wp_region_B 18 (fun w'' => Below wr.heap.size wr w'') mixed (by kernel_rfl) (below_closed wr) (Below.refl _ _).drew ?_
          simp only [List.take_succ_cons, List.take_zero, List.drop_succ_cons, List.drop_zero]
          intro KR hR
          have HR := Lib.hid hR
          clear hR
          have HCC := Lib.hid (show ∀ w'', Below wr.heap.size wr w'' → w''.cell? ⟨b, off + k * 5, none⟩ = some (.int .i64 x.s) ∧ w''.cell? ⟨b, off + k * 5 + 1, none⟩ = some (.int .i64 x.n) ∧ w''.cell? ⟨b, off + k * 5 + 2, none⟩ = some (.int .i64 x.m) ∧ w''.cell? ⟨b, off + k * 5 + 3, none⟩ = some (.int .i64 x.r) ∧ w''.cell? ⟨b, off + k * 5 + 4, none⟩ = some (.int .u64 x.k) from fun w'' hw => ⟨(HX.out.later hw).1, (HX.out.later hw).2.1, (HX.out.later hw).2.2.1, (HX.out.later hw).2.2.2.1, (HX.out.later hw).2.2.2.2⟩)
          repeat (first
            | ((with_reducible refine wpB_move ?_ ?_); exact rfl; simp only [Act.put, List.setIfInBounds_toArray, List.set_cons_zero, List.set_cons_succ])
            | ((with_reducible refine wpB_skip ?_ ?_); exact rfl; simp only [Act.put, List.setIfInBounds_toArray, List.set_cons_zero, List.set_cons_succ])
            | (apply wpB_call 32 #[.slice (some ⟨b, off, none⟩) l.length cap, .int .i64 (k : Nat)] rfl (v := .bool true)
               · (intro w'; go_simp)
               · exact fun w' hw' => HF.out w' hw'
               simp only [Act.put, List.setIfInBounds_toArray, List.set_cons_zero, List.set_cons_succ])
            | (apply wpB_call 17 #[.int .u64 (z : Nat), rdV x] rfl (v := .int .u64 (L : Nat))
               · (intro w'; go_simp)
               · exact fun w' hw' => HL.out w'
               simp only [Act.put, List.setIfInBounds_toArray, List.set_cons_zero, List.set_cons_succ])
            | (apply wpB_val rfl
               · (intro w' hw'; obtain ⟨c0, c1, c2, c3, c4⟩ := HCC.out w' hw'; go_simp; with_reducible rfl)
               simp only [Act.put, List.setIfInBounds_toArray, List.set_cons_zero, List.set_cons_succ]))
          refine wpB_nil (HR.out _ (fun w2 hw2 => ?_))
          clear HR HCC
          have HB2 := Lib.hid (below_step HB.out hw2)
          clear hw2
          go_wp2
          go_ret
          exact ⟨by rw [← HC.out]; rfl, HB2.out⟩
    · obtain rfl : k = l.length := by omega
      obtain rfl : -1 = V := isChk_uniq (Or.inl ⟨rfl, HRI.out⟩) (HV.out ▸ chk_is seed l)
      go_wp2
      go_ret
      exact ⟨rfl, HB.out⟩

set_option maxHeartbeats 4000000 in
theorem refOrdered_any (o : Option Addr) (cap : Nat) (l : List Rd) (w : World) (hr : Rds w o l) (hl : l.length ≤ 9223372036854775807) : Calls Try.prog 29 #[.slice o l.length cap] w (Ret (.bool (ordered l)) w) := by
  have HRD := Lib.hid hr
  clear hr
  obtain ⟨V, hV⟩ : ∃ V, ordered l = V := ⟨_, rfl⟩
  rw [hV]
  have HV := Lib.hid hV
  clear hV
  go_enter Try.func29, Try.ntmps29
  go_wp2
  go_loopw [3] (fun i wr => ∃ k : Nat, k ≤ l.length ∧ i = .int .i64 k ∧ (∀ j, j < k → okAt l j = true) ∧ Below w.heap.size w wr) (fun i _ => l.length - (intOf i).toNat)
  case atStart => exact ⟨0, Nat.zero_le _, rfl, fun j hj => absurd hj (by omega), Below.refl _ _⟩
  case round =>
    obtain ⟨k, hk, rfl, hri, hb⟩ := hrel
    have HRI := Lib.hid hri
    have HB := Lib.hid hb
    clear hri hb
    by_cases hlt : k < l.length
    · have HF := Lib.hid (fits_any o cap l k wr (HRD.out.later HB.out) hlt hl)
      obtain ⟨v, hv⟩ : ∃ v, okAt l k = v := ⟨_, rfl⟩
      have HVK := Lib.hid hv
      rw [hv] at HF
      clear hv
      go_wp2_with fail
      refine HF.out.mono ?_
      rintro e w1 ⟨rfl, hb⟩
      have HB2 := Lib.hid (below_step HB.out hb)
      clear hb HF
      cases v with
      | false =>
        obtain rfl : false = V := by
          cases hV : V with
          | false => rfl
          | true => have := ordered_iff.1 (HV.out.trans hV) k hlt; rw [HVK.out] at this; cases this
        go_wp2
        go_ret
        exact ⟨rfl, HB2.out⟩
      | true =>
        go_wp2
        go_roundw
        case rel => exact ⟨k + 1, by omega, by go_num, fun j hj => by rcases Nat.lt_or_eq_of_le (Nat.le_of_lt_succ hj) with h | rfl; exact HRI.out j h; exact HVK.out, HB2.out⟩
        case measure => simp [intOf]; omega
    · obtain rfl : k = l.length := by omega
      obtain rfl : true = V := by rw [← HV.out]; exact (ordered_iff.2 HRI.out).symm
      go_wp2
      go_ret
      exact ⟨rfl, HB.out⟩

theorem Rd.ne_parts {x y : Rd} (h : x ≠ y) : ¬ x.s = y.s ∨ (x.s = y.s ∧ ¬ x.n = y.n) ∨ (x.s = y.s ∧ x.n = y.n ∧ ¬ x.m = y.m) ∨ (x.s = y.s ∧ x.n = y.n ∧ x.m = y.m ∧ ¬ x.r = y.r) ∨ (x.s = y.s ∧ x.n = y.n ∧ x.m = y.m ∧ x.r = y.r ∧ ¬ x.k = y.k) := by
  obtain ⟨s, n, m, r, k, hk⟩ := x
  obtain ⟨s', n', m', r', k', hk'⟩ := y
  by_cases h1 : s = s' <;> by_cases h2 : n = n' <;> by_cases h3 : m = m' <;> by_cases h4 : r = r' <;> by_cases h5 : k = k' <;> simp_all

theorem run_neq_aux (s n m r k s' n' m' r' k' : Int) (h : ¬ s = s' ∨ (s = s' ∧ ¬ n = n') ∨ (s = s' ∧ n = n' ∧ ¬ m = m') ∨ (s = s' ∧ n = n' ∧ m = m' ∧ ¬ r = r') ∨ (s = s' ∧ n = n' ∧ m = m' ∧ r = r' ∧ ¬ k = k')) (w : World) :
    (binOp .neq 25 (.agg #[.int .i64 s, .int .i64 n, .int .i64 m, .int .i64 r, .int .u64 k]) (.agg #[.int .i64 s', .int .i64 n', .int .i64 m', .int .i64 r', .int .u64 k'])).run Try.prog w = .ok (.bool true) w := by
  rcases h with h | ⟨rfl, h⟩ | ⟨rfl, rfl, h⟩ | ⟨rfl, rfl, rfl, h⟩ | ⟨rfl, rfl, rfl, rfl, h⟩
  all_goals (go_simp; try simp [h])

theorem run_neq_rd (x y : Rd) (h : x ≠ y) (w : World) : (binOp .neq 25 (rdV x) (rdV y)).run Try.prog w = .ok (.bool true) w :=
  run_neq_aux _ _ _ _ _ _ _ _ _ _ (by have := Rd.ne_parts h; omega) w

end Go.Proofs.Ytckbooccgdddbaa
