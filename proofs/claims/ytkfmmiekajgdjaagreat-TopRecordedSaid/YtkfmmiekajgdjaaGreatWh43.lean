/- Package auditor: offset, typeOf, applies. -/
import Derived.Test.YtkfmmiekajgdjaaGreatWg43
import Derived.Laws.BitsAllLaws
namespace Go.Proofs.YtkfmmiekajgdjaaGreat
open Go.RowKit
attribute [local go_sem] Oper.semAt_some

def offA (off m : Int) (chg : List (Int × Int)) : Int := chg.foldl (fun o x => if x.1 ≤ m then x.2 else o) off
def typA (hol : List Int) (day : Int) : Int := if hol.any (· == day) then 2 else if (day + 7) % 7 = 5 then 1 else if (day + 7) % 7 = 6 then 2 else 0
theorem typA_cases (hol : List Int) (day : Int) : typA hol day = 0 ∨ typA hol day = 1 ∨ typA hol day = 2 := by
  unfold typA
  split
  · simp
  · split
    · simp
    · split <;> simp
def dayB (d ty : Int) : Bool := bits .and .i64 d (2 ^ ty.toNat) != 0
theorem take_pr {l : List (Int × Int)} {k : Nat} (h : k < l.length) : l.take (k + 1) = l.take k ++ [l.getD k (0, 0)] := by
  rw [List.take_succ_eq_append_getElem h]
  simp [h]
theorem offA_take {off m : Int} {l : List (Int × Int)} {k : Nat} (h : k < l.length) : offA off m (l.take (k + 1)) = if (l.getD k (0, 0)).1 ≤ m then (l.getD k (0, 0)).2 else offA off m (l.take k) := by
  rw [take_pr h]
  unfold offA
  rw [List.foldl_append]
  rfl
theorem chgA_all : ∀ {l : List (Int × Int)} {b : Int}, chgA b l = true → ∀ x ∈ l, insB x.2 (-1440) 1440 = true
  | [], _, _, _, hx => by cases hx
  | y :: l, b, h, x, hx => by
    rw [chgA_cons] at h
    simp only [Bool.and_eq_true] at h
    rcases List.mem_cons.1 hx with rfl | hx
    · exact h.1.2
    · exact chgA_all h.2 x hx
theorem offA_bounds {m : Int} : ∀ {l : List (Int × Int)} {off : Int}, (-1440 ≤ off ∧ off ≤ 1440) → (∀ x ∈ l, insB x.2 (-1440) 1440 = true) → -1440 ≤ offA off m l ∧ offA off m l ≤ 1440
  | [], _, h, _ => h
  | y :: l, off, h, hx => by
    show -1440 ≤ offA (if y.1 ≤ m then y.2 else off) m l ∧ _
    refine offA_bounds ?_ (fun x h1 => hx x (List.mem_cons_of_mem _ h1))
    split
    · have := hx y (List.mem_cons_self ..)
      unfold insB at this
      simpa using this
    · exact h
theorem dat_off {off m : Int} {chg : List (Int × Int)} {hol : List Int} (h : datA off chg hol = true) : -1440 ≤ offA off m chg ∧ offA off m chg ≤ 1440 := by
  unfold datA at h
  simp only [Bool.and_eq_true] at h
  exact offA_bounds (by have := h.1; unfold insB at this; simpa using this) (chgA_all h.2.2.1)

set_option maxRecDepth 100000 in
set_option maxHeartbeats 8000000 in
theorem offset_any (w0 w : World) (g : Nat) (c : ClA) (f : SesA) (b : BilA) (r m : Int) (h : ExM w0 w g c f b r) : Calls Tryz.prog 105 #[.pointer (some ⟨g, 0, none⟩), .int .i64 m] w (Ret (.int .i64 (offA c.off m c.chg)) w) := by
  have HX := Lib.hid h
  have HCM := Lib.hid h.here
  clear h
  go_enter Tryz.func105, Tryz.ntmps105
  have c2 : w.cell? ⟨g, 2, none⟩ = some (.int .i64 c.off) := HX.out.blk.cell 2
  have c3 : w.cell? ⟨g, 3, none⟩ = some (.slice c.oc c.chg.length c.cc) := HX.out.blk.cell 3
  have hnc := HCM.out.nc
  go_wp2
  clear c2 c3 HX
  go_loopw [5, 21] (fun v i wr => ∃ k : Nat, k ≤ c.chg.length ∧ i = .int .i64 k ∧ v = .int .i64 (offA c.off m (c.chg.take k)) ∧ Below w.heap.size w wr) (fun _ i _ => c.chg.length - (intOf i).toNat)
  case atStart => exact ⟨0, Nat.zero_le _, rfl, rfl, Below.refl _ _⟩
  case round =>
    obtain ⟨k, hk, rfl, rfl, hb⟩ := hrel
    obtain ⟨wA, rfl⟩ : ∃ wA : World, wA = wr := ⟨_, rfl⟩
    have HB := Lib.hid hb
    clear hb
    by_cases hlt : k < c.chg.length
    · have HOT := Lib.hid (offA_take (off := c.off) (m := m) hlt)
      obtain ⟨gx, fx, hgo, x0, x1⟩ := (HCM.out.chg.later HB.out) k hlt
      obtain ⟨x, hx⟩ : ∃ x, c.chg.getD k (0, 0) = x := ⟨_, rfl⟩
      obtain ⟨O, hO⟩ : ∃ x, offA c.off m (c.chg.take k) = x := ⟨_, rfl⟩
      rw [hx] at x0 x1 HOT
      rw [hO] at HOT ⊢
      clear hx hO
      rw [hgo]
      have y1 : (0 : Int) ≤ (k : Int) := by omega
      have y2 : (k : Int) < (c.chg.length : Int) := by omega
      have HB2 := Lib.hid (below_step HB.out (show Below wA.heap.size wA (wA.alloc (.cells #[.int .i64 x.1, .int .i64 x.2] 139)) from below_alloc (Below.refl _ _) _))
      by_cases hle : x.1 ≤ m
      · have hd : decide (x.1 ≤ m) = true := decide_eq_true hle
        rw [if_pos hle] at HOT
        clear hle
        go_wp2
        go_roundw
        case rel => exact ⟨k + 1, hlt, by go_num, by rw [HOT.out], HB2.out⟩
        case measure => simp [intOf]; omega
      · have hd : decide (x.1 ≤ m) = false := decide_eq_false hle
        rw [if_neg hle] at HOT
        clear hle
        go_wp2
        go_roundw
        case rel => exact ⟨k + 1, hlt, by go_num, by rw [HOT.out], HB2.out⟩
        case measure => simp [intOf]; omega
    · obtain rfl : k = c.chg.length := by omega
      rw [List.take_length]
      go_wp2
      go_ret
      exact ⟨rfl, HB.out⟩

set_option maxRecDepth 100000 in
set_option maxHeartbeats 8000000 in
theorem typeOf_any (w0 w : World) (g : Nat) (c : ClA) (f : SesA) (b : BilA) (r d : Int) (h : ExM w0 w g c f b r) (h0 : 0 ≤ d + 7) (h1 : d ≤ 1000000) : Calls Tryz.prog 106 #[.pointer (some ⟨g, 0, none⟩), .int .i64 d] w (Ret (.int .i64 (typA c.hol d)) w) := by
  have HX := Lib.hid h
  have HCM := Lib.hid h.here
  clear h
  obtain ⟨V, hV⟩ : ∃ V, typA c.hol d = V := ⟨_, rfl⟩
  rw [hV]
  have HV := Lib.hid (show (if c.hol.any (· == d) then (2 : Int) else if (d + 7) % 7 = 5 then 1 else if (d + 7) % 7 = 6 then 2 else 0) = V from hV)
  clear hV
  go_enter Tryz.func106, Tryz.ntmps106
  have c4 : w.cell? ⟨g, 4, none⟩ = some (.slice c.oh c.hol.length c.ch) := HX.out.blk.cell 4
  have hnh := HCM.out.nh
  go_wp2
  clear c4 HX
  go_loop [14] (fun i => ∃ k : Nat, k ≤ c.hol.length ∧ i = .int .i64 k ∧ ∀ j, j < k → ¬ c.hol.getD j 0 = d) (fun i => c.hol.length - (intOf i).toNat)
  case atStart => exact ⟨0, Nat.zero_le _, rfl, fun j hj => absurd hj (Nat.not_lt_zero _)⟩
  case round =>
    obtain ⟨k, hk, rfl, hz⟩ := hrel
    have HZ := Lib.hid hz
    clear hz
    by_cases hlt : k < c.hol.length
    · obtain ⟨gx, fx, hgo, x0⟩ := HCM.out.hol k hlt
      have HMEM := Lib.hid (show c.hol.getD k 0 ∈ c.hol by rw [List.getD_eq_getElem?_getD, List.getElem?_eq_getElem hlt]; exact List.getElem_mem hlt)
      obtain ⟨x, hx⟩ : ∃ x, c.hol.getD k 0 = x := ⟨_, rfl⟩
      have HXK := Lib.hid hx
      rw [hx] at x0 HMEM
      clear hx
      rw [hgo]
      have y1 : (0 : Int) ≤ (k : Int) := by omega
      have y2 : (k : Int) < (c.hol.length : Int) := by omega
      by_cases he : x = d
      · have hd : (x == d) = true := by simpa using he
        obtain rfl : (2 : Int) = V := by rw [← HV.out, if_pos]; rw [List.any_eq_true]; exact ⟨x, HMEM.out, hd⟩
        clear he
        go_wp2
        go_ret
        exact ⟨rfl, Below.refl _ _⟩
      · have hd : (x == d) = false := by simpa using he
        have HN := Lib.hid (show ∀ j, j < k + 1 → ¬ c.hol.getD j 0 = d from fun j hj => by
          by_cases e : j = k
          · subst e; rw [HXK.out]; exact he
          · exact HZ.out j (by omega))
        clear he
        go_wp2
        go_round
        case rel => exact ⟨k + 1, hlt, by go_num, HN.out⟩
        case measure => simp [intOf]; omega
    · obtain rfl : k = c.hol.length := by omega
      have HA := Lib.hid (show (if (d + 7) % 7 = 5 then (1 : Int) else if (d + 7) % 7 = 6 then 2 else 0) = V by
        have hany : c.hol.any (· == d) = false := by
          rw [List.any_eq_false]
          intro x hx he
          obtain ⟨j, hj⟩ := List.getElem?_of_mem hx
          have hjl := (List.getElem?_eq_some_iff.1 hj).1
          exact HZ.out j hjl (by rw [List.getD_eq_getElem?_getD, hj]; simpa using he)
        rw [← HV.out, hany]; rfl)
      have hb7 : d + 7 ≤ 1000007 := by omega
      by_cases h5 : (d + 7) % 7 = 5
      · have hd : ((d + 7) % 7 == 5) = true := by simpa using h5
        obtain rfl : (1 : Int) = V := by rw [← HA.out, if_pos h5]
        clear h5
        go_wp2
        go_ret
        exact ⟨rfl, Below.refl _ _⟩
      have hd : ((d + 7) % 7 == 5) = false := by simpa using h5
      by_cases h6 : (d + 7) % 7 = 6
      · have hd2 : ((d + 7) % 7 == 6) = true := by simpa using h6
        obtain rfl : (2 : Int) = V := by rw [← HA.out, if_neg h5, if_pos h6]
        clear h5 h6
        go_wp2
        go_ret
        exact ⟨rfl, Below.refl _ _⟩
      have hd2 : ((d + 7) % 7 == 6) = false := by simpa using h6
      obtain rfl : (0 : Int) = V := by rw [← HA.out, if_neg h5, if_neg h6]
      clear h5 h6
      go_wp2
      go_ret
      exact ⟨rfl, Below.refl _ _⟩

/-- Whether an article applies in a minute. -/
def appA (a : Art) (c : ClA) (m : Int) : Bool := decide (a.f ≤ (m + offA c.off m c.chg + 1440) % 1440) && (decide ((m + offA c.off m c.chg + 1440) % 1440 < a.t) && dayB a.d (typA c.hol ((m + offA c.off m c.chg + 1440) / 1440 - 1)))
theorem shl_typ {ty : Int} (h : ty = 0 ∨ ty = 1 ∨ ty = 2) : wrap64 ((2 : Int) ^ ty.toNat) = 2 ^ ty.toNat ∧ IntKind.i64.wrap ((2 : Int) ^ ty.toNat) = 2 ^ ty.toNat := by
  obtain ⟨q, hq, hb⟩ : ∃ q : Int, (2 : Int) ^ ty.toNat = q ∧ 0 ≤ q ∧ q ≤ 4 := by
    rcases h with rfl | rfl | rfl
    · exact ⟨1, rfl, by omega⟩
    · exact ⟨2, rfl, by omega⟩
    · exact ⟨4, rfl, by omega⟩
  rw [hq]
  exact ⟨by unfold wrap64; omega, IntWalk.i64_in _ (by omega)⟩

set_option maxRecDepth 100000 in
set_option maxHeartbeats 8000000 in
theorem applies_any (w0 w : World) (g : Nat) (c : ClA) (f : SesA) (b : BilA) (r : Int) (a : Art) (m : Int) (h : ExM w0 w g c f b r) (hd : datA c.off c.chg c.hol = true) (h0 : 0 ≤ m) (h1 : m ≤ 52560000) : Calls Tryz.prog 98 #[.pointer (some ⟨g, 0, none⟩), artV a, .int .i64 m] w (Ret (.bool (appA a c m)) w) := by
  have HX := Lib.hid h
  clear h
  have hob := dat_off (m := m) hd
  have hob1 := hob.1
  have hob2 := hob.2
  clear hd hob
  obtain ⟨V, hV⟩ : ∃ V, appA a c m = V := ⟨_, rfl⟩
  rw [hV]
  have HV := Lib.hid (show (decide (a.f ≤ (m + offA c.off m c.chg + 1440) % 1440) && (decide ((m + offA c.off m c.chg + 1440) % 1440 < a.t) && dayB a.d (typA c.hol ((m + offA c.off m c.chg + 1440) / 1440 - 1)))) = V from hV)
  clear hV
  go_enter Tryz.func98, Tryz.ntmps98
  go_upto_region 1 with (fail)
  obtain ⟨W1, hW1⟩ : ∃ W1, W1 = w.alloc (.cells #[.int .i64 a.k, .int .i64 a.d, .int .i64 a.f, .int .i64 a.t, .int .i64 a.p, .int .i64 a.u, .int .i64 a.r] 72) := ⟨_, rfl⟩
  have HQ := Lib.hid (show Blk W1 w.heap.size 72 #[.int .i64 a.k, .int .i64 a.d, .int .i64 a.f, .int .i64 a.t, .int .i64 a.p, .int .i64 a.u, .int .i64 a.r] by rw [hW1]; exact Blk.new _ _ _)
  have HB := Lib.hid (show Below w.heap.size w W1 by rw [hW1]; exact below_alloc (Below.refl _ _) _)
  try rw [← hW1]
  clear hW1
  replace HX := Lib.hid (HX.out.later HB.out)
  obtain ⟨Q, hQ⟩ : ∃ B, w.heap.size = B := ⟨_, rfl⟩
  rw [hQ] at HQ ⊢
  clear hQ
  go_wp2_with fail
  refine (offset_any w0 W1 g c f b r m HX.out).mono ?_
  rintro _ W2 ⟨rfl, hb⟩
  replace HX := Lib.hid (HX.out.later hb)
  replace HQ := Lib.hid (HQ.out.later hb)
  replace HB := Lib.hid (below_step HB.out hb)
  clear hb
  obtain ⟨O, hO⟩ : ∃ x, offA c.off m c.chg = x := ⟨_, rfl⟩
  rw [hO] at HV hob1 hob2 ⊢
  clear hO
  have hl0 : 0 ≤ m + O + 1440 := by omega
  have hl1 : m + O + 1440 ≤ 52562880 := by omega
  go_upto_region 3 with (fail)
  obtain ⟨M, hM⟩ : ∃ x, (m + O + 1440) % 1440 = x := ⟨_, rfl⟩
  obtain ⟨D, hD⟩ : ∃ x, (m + O + 1440) / 1440 - 1 = x := ⟨_, rfl⟩
  have hD1 : 0 ≤ D + 7 := by omega
  have hD2 : D ≤ 1000000 := by omega
  rw [hM, hD] at HV
  try rw [hM]
  try rw [hD]
  clear hM hD hl0 hl1 hob1 hob2 h0 h1
  have HTC := Lib.hid (fun w' (hb : Below W2.heap.size W2 w') => typeOf_any w0 w' g c f b r D (HX.out.later hb) hD1 hD2)
  have HTY := Lib.hid (shl_typ (typA_cases c.hol D))
  have HTN := Lib.hid (show 0 ≤ typA c.hol D ∧ typA c.hol D ≤ 2 from by rcases typA_cases c.hol D with h | h | h <;> rw [h] <;> decide)
  obtain ⟨ty, hty⟩ : ∃ x, typA c.hol D = x := ⟨_, rfl⟩
  rw [hty] at HV HTC HTY HTN
  clear hty
  by_cases k1 : a.f ≤ M
  rotate_left
  · have d1 : decide (a.f ≤ M) = false := decide_eq_false k1
    obtain rfl : false = V := by rw [← HV.out, d1]; rfl
    clear k1
    refine wp_region_B 21 (fun w'' => Below W2.heap.size W2 w'') mixed (by kernel_rfl) (below_closed W2) (Below.refl _ _).drew ?_
    simp only [List.take_succ_cons, List.take_zero, List.drop_succ_cons, List.drop_zero]
    intro KR hR
    have HR := Lib.hid hR
    clear hR
    have HCC := Lib.hid (show ∀ w'', Below W2.heap.size W2 w'' → w''.cell? ⟨Q, 1, none⟩ = some (.int .i64 a.d) ∧ w''.cell? ⟨Q, 2, none⟩ = some (.int .i64 a.f) ∧ w''.cell? ⟨Q, 3, none⟩ = some (.int .i64 a.t) from fun w'' hw => ⟨cell_kept hw (HQ.out.cell 1), cell_kept hw (HQ.out.cell 2), cell_kept hw (HQ.out.cell 3)⟩)
    apply wpB_val rfl
    · (intro w' hw'; go_simp; with_reducible rfl)
    simp only [Act.put, List.setIfInBounds_toArray, List.set_cons_zero, List.set_cons_succ]
    apply wpB_val rfl
    · (intro w' hw'; go_simp; with_reducible rfl)
    simp only [Act.put, List.setIfInBounds_toArray, List.set_cons_zero, List.set_cons_succ]
    apply wpB_val rfl
    · (intro w' hw'; obtain ⟨c0, c1, c2⟩ := HCC.out w' hw'; go_simp; with_reducible rfl)
    simp only [Act.put, List.setIfInBounds_toArray, List.set_cons_zero, List.set_cons_succ]
    apply wpB_val rfl
    · (intro w' hw'; go_simp; with_reducible rfl)
    simp only [Act.put, List.setIfInBounds_toArray, List.set_cons_zero, List.set_cons_succ]
    apply wpB_val rfl
    · (intro w' hw'; go_simp; with_reducible rfl)
    simp only [Act.put, List.setIfInBounds_toArray, List.set_cons_zero, List.set_cons_succ]
    ((with_reducible refine wpB_skip ?_ ?_); exact rfl; simp only [Act.put, List.setIfInBounds_toArray, List.set_cons_zero, List.set_cons_succ])
    ((with_reducible refine wpB_skip ?_ ?_); exact rfl; simp only [Act.put, List.setIfInBounds_toArray, List.set_cons_zero, List.set_cons_succ])
    ((with_reducible refine wpB_skip ?_ ?_); exact rfl; simp only [Act.put, List.setIfInBounds_toArray, List.set_cons_zero, List.set_cons_succ])
    ((with_reducible refine wpB_skip ?_ ?_); exact rfl; simp only [Act.put, List.setIfInBounds_toArray, List.set_cons_zero, List.set_cons_succ])
    apply wpB_val rfl
    · (intro w' hw'; go_simp; with_reducible rfl)
    simp only [Act.put, List.setIfInBounds_toArray, List.set_cons_zero, List.set_cons_succ]
    apply wpB_val rfl
    · (intro w' hw'; go_simp; with_reducible rfl)
    simp only [Act.put, List.setIfInBounds_toArray, List.set_cons_zero, List.set_cons_succ]
    ((with_reducible refine wpB_skip ?_ ?_); exact rfl; simp only [Act.put, List.setIfInBounds_toArray, List.set_cons_zero, List.set_cons_succ])
    ((with_reducible refine wpB_skip ?_ ?_); exact rfl; simp only [Act.put, List.setIfInBounds_toArray, List.set_cons_zero, List.set_cons_succ])
    ((with_reducible refine wpB_skip ?_ ?_); exact rfl; simp only [Act.put, List.setIfInBounds_toArray, List.set_cons_zero, List.set_cons_succ])
    ((with_reducible refine wpB_skip ?_ ?_); exact rfl; simp only [Act.put, List.setIfInBounds_toArray, List.set_cons_zero, List.set_cons_succ])
    ((with_reducible refine wpB_skip ?_ ?_); exact rfl; simp only [Act.put, List.setIfInBounds_toArray, List.set_cons_zero, List.set_cons_succ])
    ((with_reducible refine wpB_skip ?_ ?_); exact rfl; simp only [Act.put, List.setIfInBounds_toArray, List.set_cons_zero, List.set_cons_succ])
    ((with_reducible refine wpB_skip ?_ ?_); exact rfl; simp only [Act.put, List.setIfInBounds_toArray, List.set_cons_zero, List.set_cons_succ])
    ((with_reducible refine wpB_skip ?_ ?_); exact rfl; simp only [Act.put, List.setIfInBounds_toArray, List.set_cons_zero, List.set_cons_succ])
    apply wpB_val rfl
    · (intro w' hw'; go_simp; with_reducible rfl)
    simp only [Act.put, List.setIfInBounds_toArray, List.set_cons_zero, List.set_cons_succ]
    apply wpB_val rfl
    · (intro w' hw'; go_simp; with_reducible rfl)
    simp only [Act.put, List.setIfInBounds_toArray, List.set_cons_zero, List.set_cons_succ]
    refine wpB_nil (HR.out _ (fun w2 hw2 => ?_))
    clear HR HCC
    go_wp2
    go_ret
    exact ⟨rfl, below_step HB.out hw2⟩
  have d1 : decide (a.f ≤ M) = true := decide_eq_true k1
  by_cases k2 : M < a.t
  rotate_left
  · have d2 : decide (M < a.t) = false := decide_eq_false k2
    obtain rfl : false = V := by rw [← HV.out, d1, d2]; rfl
    clear k1 k2
    refine wp_region_B 21 (fun w'' => Below W2.heap.size W2 w'') mixed (by kernel_rfl) (below_closed W2) (Below.refl _ _).drew ?_
    simp only [List.take_succ_cons, List.take_zero, List.drop_succ_cons, List.drop_zero]
    intro KR hR
    have HR := Lib.hid hR
    clear hR
    have HCC := Lib.hid (show ∀ w'', Below W2.heap.size W2 w'' → w''.cell? ⟨Q, 1, none⟩ = some (.int .i64 a.d) ∧ w''.cell? ⟨Q, 2, none⟩ = some (.int .i64 a.f) ∧ w''.cell? ⟨Q, 3, none⟩ = some (.int .i64 a.t) from fun w'' hw => ⟨cell_kept hw (HQ.out.cell 1), cell_kept hw (HQ.out.cell 2), cell_kept hw (HQ.out.cell 3)⟩)
    apply wpB_val rfl
    · (intro w' hw'; go_simp; with_reducible rfl)
    simp only [Act.put, List.setIfInBounds_toArray, List.set_cons_zero, List.set_cons_succ]
    apply wpB_val rfl
    · (intro w' hw'; go_simp; with_reducible rfl)
    simp only [Act.put, List.setIfInBounds_toArray, List.set_cons_zero, List.set_cons_succ]
    apply wpB_val rfl
    · (intro w' hw'; obtain ⟨c0, c1, c2⟩ := HCC.out w' hw'; go_simp; with_reducible rfl)
    simp only [Act.put, List.setIfInBounds_toArray, List.set_cons_zero, List.set_cons_succ]
    apply wpB_val rfl
    · (intro w' hw'; go_simp; with_reducible rfl)
    simp only [Act.put, List.setIfInBounds_toArray, List.set_cons_zero, List.set_cons_succ]
    apply wpB_val rfl
    · (intro w' hw'; go_simp; with_reducible rfl)
    simp only [Act.put, List.setIfInBounds_toArray, List.set_cons_zero, List.set_cons_succ]
    apply wpB_val rfl
    · (intro w' hw'; go_simp; with_reducible rfl)
    simp only [Act.put, List.setIfInBounds_toArray, List.set_cons_zero, List.set_cons_succ]
    apply wpB_val rfl
    · (intro w' hw'; go_simp; with_reducible rfl)
    simp only [Act.put, List.setIfInBounds_toArray, List.set_cons_zero, List.set_cons_succ]
    apply wpB_val rfl
    · (intro w' hw'; obtain ⟨c0, c1, c2⟩ := HCC.out w' hw'; go_simp; with_reducible rfl)
    simp only [Act.put, List.setIfInBounds_toArray, List.set_cons_zero, List.set_cons_succ]
    apply wpB_val rfl
    · (intro w' hw'; go_simp; with_reducible rfl)
    simp only [Act.put, List.setIfInBounds_toArray, List.set_cons_zero, List.set_cons_succ]
    apply wpB_val rfl
    · (intro w' hw'; go_simp; with_reducible rfl)
    simp only [Act.put, List.setIfInBounds_toArray, List.set_cons_zero, List.set_cons_succ]
    apply wpB_val rfl
    · (intro w' hw'; go_simp; with_reducible rfl)
    simp only [Act.put, List.setIfInBounds_toArray, List.set_cons_zero, List.set_cons_succ]
    ((with_reducible refine wpB_skip ?_ ?_); exact rfl; simp only [Act.put, List.setIfInBounds_toArray, List.set_cons_zero, List.set_cons_succ])
    ((with_reducible refine wpB_skip ?_ ?_); exact rfl; simp only [Act.put, List.setIfInBounds_toArray, List.set_cons_zero, List.set_cons_succ])
    ((with_reducible refine wpB_skip ?_ ?_); exact rfl; simp only [Act.put, List.setIfInBounds_toArray, List.set_cons_zero, List.set_cons_succ])
    ((with_reducible refine wpB_skip ?_ ?_); exact rfl; simp only [Act.put, List.setIfInBounds_toArray, List.set_cons_zero, List.set_cons_succ])
    ((with_reducible refine wpB_skip ?_ ?_); exact rfl; simp only [Act.put, List.setIfInBounds_toArray, List.set_cons_zero, List.set_cons_succ])
    ((with_reducible refine wpB_skip ?_ ?_); exact rfl; simp only [Act.put, List.setIfInBounds_toArray, List.set_cons_zero, List.set_cons_succ])
    ((with_reducible refine wpB_skip ?_ ?_); exact rfl; simp only [Act.put, List.setIfInBounds_toArray, List.set_cons_zero, List.set_cons_succ])
    ((with_reducible refine wpB_skip ?_ ?_); exact rfl; simp only [Act.put, List.setIfInBounds_toArray, List.set_cons_zero, List.set_cons_succ])
    apply wpB_val rfl
    · (intro w' hw'; go_simp; with_reducible rfl)
    simp only [Act.put, List.setIfInBounds_toArray, List.set_cons_zero, List.set_cons_succ]
    apply wpB_val rfl
    · (intro w' hw'; go_simp; with_reducible rfl)
    simp only [Act.put, List.setIfInBounds_toArray, List.set_cons_zero, List.set_cons_succ]
    refine wpB_nil (HR.out _ (fun w2 hw2 => ?_))
    clear HR HCC
    go_wp2
    go_ret
    exact ⟨rfl, below_step HB.out hw2⟩
  have d2 : decide (M < a.t) = true := decide_eq_true k2
  have HV2 := Lib.hid (show (bits .and .i64 a.d (2 ^ ty.toNat) != 0) = V by rw [← HV.out, d1, d2]; rfl)
  clear k1 k2
  have t1 := HTY.out.1
  have t2 := HTY.out.2
  have t3 := HTN.out.1
  have t4 := HTN.out.2
  refine wp_region_B 21 (fun w'' => Below W2.heap.size W2 w'') mixed (by kernel_rfl) (below_closed W2) (Below.refl _ _).drew ?_
  simp only [List.take_succ_cons, List.take_zero, List.drop_succ_cons, List.drop_zero]
  intro KR hR
  have HR := Lib.hid hR
  clear hR
  have HCC := Lib.hid (show ∀ w'', Below W2.heap.size W2 w'' → w''.cell? ⟨Q, 1, none⟩ = some (.int .i64 a.d) ∧ w''.cell? ⟨Q, 2, none⟩ = some (.int .i64 a.f) ∧ w''.cell? ⟨Q, 3, none⟩ = some (.int .i64 a.t) from fun w'' hw => ⟨cell_kept hw (HQ.out.cell 1), cell_kept hw (HQ.out.cell 2), cell_kept hw (HQ.out.cell 3)⟩)
  apply wpB_val rfl
  · (intro w' hw'; go_simp; with_reducible rfl)
  simp only [Act.put, List.setIfInBounds_toArray, List.set_cons_zero, List.set_cons_succ]
  apply wpB_val rfl
  · (intro w' hw'; go_simp; with_reducible rfl)
  simp only [Act.put, List.setIfInBounds_toArray, List.set_cons_zero, List.set_cons_succ]
  apply wpB_val rfl
  · (intro w' hw'; obtain ⟨c0, c1, c2⟩ := HCC.out w' hw'; go_simp; with_reducible rfl)
  simp only [Act.put, List.setIfInBounds_toArray, List.set_cons_zero, List.set_cons_succ]
  apply wpB_val rfl
  · (intro w' hw'; go_simp; with_reducible rfl)
  simp only [Act.put, List.setIfInBounds_toArray, List.set_cons_zero, List.set_cons_succ]
  apply wpB_val rfl
  · (intro w' hw'; go_simp; with_reducible rfl)
  simp only [Act.put, List.setIfInBounds_toArray, List.set_cons_zero, List.set_cons_succ]
  apply wpB_val rfl
  · (intro w' hw'; go_simp; with_reducible rfl)
  simp only [Act.put, List.setIfInBounds_toArray, List.set_cons_zero, List.set_cons_succ]
  apply wpB_val rfl
  · (intro w' hw'; go_simp; with_reducible rfl)
  simp only [Act.put, List.setIfInBounds_toArray, List.set_cons_zero, List.set_cons_succ]
  apply wpB_val rfl
  · (intro w' hw'; obtain ⟨c0, c1, c2⟩ := HCC.out w' hw'; go_simp; with_reducible rfl)
  simp only [Act.put, List.setIfInBounds_toArray, List.set_cons_zero, List.set_cons_succ]
  apply wpB_val rfl
  · (intro w' hw'; go_simp; with_reducible rfl)
  simp only [Act.put, List.setIfInBounds_toArray, List.set_cons_zero, List.set_cons_succ]
  apply wpB_val rfl
  · (intro w' hw'; go_simp; with_reducible rfl)
  simp only [Act.put, List.setIfInBounds_toArray, List.set_cons_zero, List.set_cons_succ]
  apply wpB_val rfl
  · (intro w' hw'; go_simp; with_reducible rfl)
  simp only [Act.put, List.setIfInBounds_toArray, List.set_cons_zero, List.set_cons_succ]
  apply wpB_val rfl
  · (intro w' hw'; go_simp; with_reducible rfl)
  simp only [Act.put, List.setIfInBounds_toArray, List.set_cons_zero, List.set_cons_succ]
  apply wpB_val rfl
  · (intro w' hw'; obtain ⟨c0, c1, c2⟩ := HCC.out w' hw'; go_simp; with_reducible rfl)
  simp only [Act.put, List.setIfInBounds_toArray, List.set_cons_zero, List.set_cons_succ]
  apply wpB_val rfl
  · (intro w' hw'; go_simp; with_reducible rfl)
  simp only [Act.put, List.setIfInBounds_toArray, List.set_cons_zero, List.set_cons_succ]
  apply wpB_val rfl
  · (intro w' hw'; go_simp; with_reducible rfl)
  simp only [Act.put, List.setIfInBounds_toArray, List.set_cons_zero, List.set_cons_succ]
  apply wpB_call 106 #[.pointer (some ⟨g, 0, none⟩), .int .i64 D] rfl (v := .int .i64 ty)
  · (intro w'; go_simp)
  · exact fun w' hw' => HTC.out w' hw'
  simp only [Act.put, List.setIfInBounds_toArray, List.set_cons_zero, List.set_cons_succ]
  apply wpB_val rfl
  · (intro w' hw'; go_simp; with_reducible rfl)
  simp only [Act.put, List.setIfInBounds_toArray, List.set_cons_zero, List.set_cons_succ]
  apply wpB_val rfl
  · (intro w' hw'; go_simp; with_reducible rfl)
  simp only [Act.put, List.setIfInBounds_toArray, List.set_cons_zero, List.set_cons_succ]
  apply wpB_val rfl
  · (intro w' hw'; go_simp; with_reducible rfl)
  simp only [Act.put, List.setIfInBounds_toArray, List.set_cons_zero, List.set_cons_succ]
  apply wpB_val rfl
  · (intro w' hw'; go_simp; with_reducible rfl)
  simp only [Act.put, List.setIfInBounds_toArray, List.set_cons_zero, List.set_cons_succ]
  apply wpB_val rfl
  · (intro w' hw'; go_simp; with_reducible rfl)
  simp only [Act.put, List.setIfInBounds_toArray, List.set_cons_zero, List.set_cons_succ]
  refine wpB_nil (HR.out _ (fun w2 hw2 => ?_))
  clear HR HCC
  obtain rfl := HV2.out
  clear t1 t2 t3 t4
  go_wp2
  go_ret
  exact ⟨rfl, below_step HB.out hw2⟩
end Go.Proofs.YtkfmmiekajgdjaaGreat