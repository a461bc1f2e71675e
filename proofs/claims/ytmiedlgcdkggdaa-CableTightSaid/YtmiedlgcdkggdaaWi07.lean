/- Chapter 07: CableTight, CableSafe, walked. -/
import Derived.Test.YtmiedlgcdkggdaaWh07
namespace Go.Proofs.Ytmiedlgcdkggdaa
open Go.RowKit

theorem oneCell_int (y : Int) : ∀ u ∈ [Value.int .i64 y], u.oneCell' = true := by simp [Value.oneCell']

theorem nextN_nz {a m g l d t x : Int} (hz : zeroC a m g l d = false) : nextN a m g l d t x = nextT a g l d t x := by rw [nextN, hz]; rfl

theorem tight_plain {a m g l d x : Int} (hz : zeroC a m g l d = false) (hl : 0 ≤ l) (hd : 1 ≤ d) (hp : min l d * (m - a) < g * x * x) : ∀ (n : Nat) (t i : Int), 0 ≤ i → 1 ≤ n → m + 1 ≤ t + n → 0 ≤ hotAt a m g l d t i (List.replicate n x)
  | 0, _, _, _, h, _ => by omega
  | n + 1, t, i, hi, _, hn => by
    rw [List.replicate_succ, hotAt, nextN_nz hz, hz]
    split
    · exact hi
    · rename_i hc
      simp only [Bool.not_false, Bool.true_and, decide_eq_true_eq] at hc
      have := next_tight (t := t) hl hd hp
      exact tight_plain hz hl hd hp n _ _ (by omega) (by omega) (by omega)

theorem safe_step {a m g l d p t x : Int} (hB : boundC a m g l d = true) (hz : zeroC a m g l d = false) (hp : PermitOf g (min l d * (m - a)) p) (ht : 0 ≤ t ∧ t ≤ m) (hx : 0 ≤ x ∧ x ≤ p) :
    nextV a m g l d t x = .tuple #[.int .i64 (nextN a m g l d t x), .int .i64 0] ∧ 0 ≤ nextN a m g l d t x ∧ nextN a m g l d t x ≤ m := by
  obtain ⟨b1, b2, b3, b4, b5, b6, b7, b8, b9, b10⟩ := boundC_iff.1 hB
  have hp1 := hp.2.1
  have hv : validC a m g l d = true := by simp [validC, hB]
  have hok : nextOk a m g l d t x = true := nextOk_iff.2 ⟨hv, ⟨ht.1, by omega⟩, hx.1, by omega⟩
  have h0 := (nextN_range hok).1
  have h1 : nextN a m g l d t x ≤ m := by
    rw [nextN_nz hz]
    exact next_safe b7 b9 ht.2 ((permit_iff b5 hp hx.1 (by omega)).2 hx.2)
  refine ⟨?_, h0, h1⟩
  have hT : isT (nextN a m g l d t x) = true := by
    unfold isT
    rw [decide_eq_true_eq]
    omega
  rw [nextV, hok, hT]
  rfl

theorem safe_plain {a m g l d p : Int} (hB : boundC a m g l d = true) (hz : zeroC a m g l d = false) (hp : PermitOf g (min l d * (m - a)) p) : ∀ (xs : List Int) (t i : Int), 0 ≤ t ∧ t ≤ m → (∀ x ∈ xs, 0 ≤ x ∧ x ≤ p) → hotAt a m g l d t i xs = -1
  | [], _, _, _, _ => rfl
  | x :: xs, t, i, ht, hx => by
    have h := safe_step hB hz hp ht (hx x (List.mem_cons_self ..))
    rw [hotAt, if_neg]
    · exact safe_plain hB hz hp xs _ _ h.2 fun y hy => hx y (List.mem_cons_of_mem _ hy)
    · simp only [Bool.and_eq_true, decide_eq_true_eq, not_and]
      omega

set_option maxHeartbeats 8000000 in
theorem CableTight_any (a m g l d t x : Int) (w : World) : Calls Try.prog 4 #[cabV a m g l d, .int .i64 t, .int .i64 x] w (Ret (.bool true) w) := by
  obtain ⟨v, hv⟩ : ∃ v, validC a m g l d = v := ⟨_, rfl⟩
  have HV := Lib.hid hv
  clear hv
  go_enter Try.func4, Try.ntmps4
  go_wp2_with fail
  refine (head_any _).mono ?_
  rintro e w1 ⟨rfl, hb⟩
  have HX := Lib.hid ((CB.new w a m g l d).later hb)
  clear hb
  obtain ⟨c0, c1, c2, c3, c4⟩ := HX.out.cells
  go_wp2_with fail
  refine (refValid_any a m g l d _).mono ?_
  rintro e w1 ⟨rfl, hb⟩
  replace HX := Lib.hid (HX.out.later hb)
  clear hb c0 c1 c2 c3 c4
  obtain ⟨c0, c1, c2, c3, c4⟩ := HX.out.cells
  rw [HV.out]
  cases v with
  | false =>
    go_wp2
    go_ret
    exact ⟨rfl, HX.out.below⟩
  | true =>
    cases hz : zeroC a m g l d with
    | true =>
      obtain ⟨rfl, rfl, rfl, rfl, rfl⟩ := zeroC_iff.1 hz
      clear hz
      go_wp2
      go_ret
      exact ⟨rfl, HX.out.below⟩
    | false =>
      obtain ⟨b1, b2, b3, b4, b5, b6, b7, b8, b9, b10⟩ := bound_of HV.out hz
      have hB : boundC a m g l d = true := boundC_iff.2 ⟨b1, b2, b3, b4, b5, b6, b7, b8, b9, b10⟩
      obtain ⟨P, hP⟩ := permit_ex (g := g) (room_nonneg hB).1 1000 (by omega) (fun i h1 h2 => by omega)
      have HZ := Lib.hid hz
      have HB := Lib.hid hB
      have HP := Lib.hid hP
      have hP0 := hP.1
      have hP1 := hP.2.1
      clear hz hB hP
      by_cases hc : a ≤ t ∧ t ≤ 1000000000 ∧ m - a ≤ 3000 ∧ 1 ≤ x ∧ x ≤ 1000
      · obtain ⟨k1, k2, k3, k4, k5⟩ := hc
        have n1 : decide (t < a) = false := by simp; omega
        have n2 : decide (1000000000 < t) = false := by simp; omega
        have n3 : decide (3000 < m - a) = false := by simp; omega
        have n4 : decide (x < 1) = false := by simp; omega
        have n5 : decide (1000 < x) = false := by simp; omega
        obtain ⟨az, haz⟩ : ∃ az : Bool, decide (a = 0) = az := ⟨_, rfl⟩
        have HT : Hid (∀ n : Nat, (n : Int) = m - a + 1 → 1000 < P + x ∨ (P + x ≤ 1000 ∧ 0 ≤ hotAt a m g l d t 0 (List.replicate n (P + x)))) := Lib.hid (fun n hn => by
          by_cases h : P + x ≤ 1000
          · exact .inr ⟨h, tight_plain HZ.out b7 b9 (HP.out.2.2.2 (P + x) (by omega) h) n t 0 (by omega) (by omega) (by omega)⟩
          · exact .inl (by omega))
        clear haz
        by_cases ha : a = 0
        · subst ha
          go_wp2_with fail
          refine (permitted_any 0 m g l d P _ HB.out HZ.out HP.out).mono ?_
          rintro e w1 ⟨rfl, hb⟩
          replace HX := Lib.hid (HX.out.later hb)
          clear hb c0 c1 c2 c3 c4
          obtain ⟨c0, c1, c2, c3, c4⟩ := HX.out.cells
          by_cases hq : 1000 < P + x
          · go_wp2
            go_ret
            exact ⟨rfl, HX.out.below⟩
          · have hq2 : P + x ≤ 1000 := by omega
            obtain ⟨N, hN⟩ : ∃ N : Nat, (N : Int) = m - 0 + 1 := ⟨(m - 0 + 1).toNat, by omega⟩
            have hNb : N ≤ 3001 := by omega
            have HHOT : Hid (0 ≤ hotAt 0 m g l d t 0 (List.replicate N (P + x))) := Lib.hid (by rcases HT.out N hN with h | h; omega; exact h.2)
            obtain ⟨y, hy⟩ : ∃ y, P + x = y := ⟨_, rfl⟩
            rw [hy] at HHOT
            have hyb : 0 ≤ y ∧ y ≤ 1000 := by omega
            go_wp2
            clear c0 c1 c2 c3 c4
            go_loopw [10, 73] (fun v i wr => ∃ k : Nat, k ≤ N ∧ i = .int .i64 k ∧ Row w1 wr 3 1 v k (List.replicate k (.int .i64 y))) (fun _ i _ => N - (intOf i).toNat)
            case atStart => exact ⟨0, Nat.zero_le _, rfl, Row.nil ..⟩
            case round =>
              obtain ⟨k, hk, rfl, hrow⟩ := hrel
              have HR := Lib.hid hrow
              clear hrow
              by_cases hlt : k < N
              · have HK := Lib.hid (show k + 1 ≤ 1000000000 by omega)
                go_wp2_with (at_builtin; refine wp_append1 (news := [.int .i64 y]) elemInt HR.out HK.out (by decide) rfl (oneCell_int y) rfl _ _ rfl rfl rfl ?_)
                intro v2 w3 hrow2
                replace HR := Lib.hid hrow2
                clear hrow2
                go_wp2
                go_roundw
                case rel => exact ⟨k + 1, by omega, by go_num, HR.out.cast rfl (by rw [List.replicate_succ'])⟩
                case measure => simp [intOf]; omega
              · obtain rfl : k = N := by omega
                obtain ⟨oy, cy, hv2, _⟩ := HR.out.shape
                subst hv2
                replace HX := Lib.hid (HX.out.later HR.out.below)
                obtain ⟨c0, c1, c2, c3, c4⟩ := HX.out.cells
                go_wp2_with fail
                have HHV := Lib.hid (Hot_any 0 m g l d t oy cy (List.replicate k y) wr ((HR.out.cast (xs' := (List.replicate k y).map (Value.int .i64 ·)) rfl (by simp)).ints rfl) (by rw [List.length_replicate]; omega) (by simp [validC, HB.out]) ⟨by omega, k2⟩ (fun i hi => by rw [List.length_replicate] at hi; simp [hi]; exact hyb))
                rw [List.length_replicate] at HHV
                refine HHV.out.mono ?_
                rintro e w4 ⟨rfl, hb⟩
                replace HX := Lib.hid (HX.out.later hb)
                clear hb c0 c1 c2 c3 c4 HHV
                obtain ⟨z, hz⟩ : ∃ z, hotAt 0 m g l d t 0 (List.replicate k y) = z := ⟨_, rfl⟩
                rw [hz] at HHOT ⊢
                clear hz
                have hz0 := HHOT.out
                go_wp2
                go_ret
                exact ⟨rfl, HX.out.below⟩
        · skip
          go_wp2_with fail
          refine (permitted_any a m g l d P _ HB.out HZ.out HP.out).mono ?_
          rintro e w1 ⟨rfl, hb⟩
          replace HX := Lib.hid (HX.out.later hb)
          clear hb c0 c1 c2 c3 c4
          obtain ⟨c0, c1, c2, c3, c4⟩ := HX.out.cells
          by_cases hq : 1000 < P + x
          · go_wp2
            go_ret
            exact ⟨rfl, HX.out.below⟩
          · have hq2 : P + x ≤ 1000 := by omega
            obtain ⟨N, hN⟩ : ∃ N : Nat, (N : Int) = m - a + 1 := ⟨(m - a + 1).toNat, by omega⟩
            have hNb : N ≤ 3001 := by omega
            have HHOT : Hid (0 ≤ hotAt a m g l d t 0 (List.replicate N (P + x))) := Lib.hid (by rcases HT.out N hN with h | h; omega; exact h.2)
            obtain ⟨y, hy⟩ : ∃ y, P + x = y := ⟨_, rfl⟩
            rw [hy] at HHOT
            have hyb : 0 ≤ y ∧ y ≤ 1000 := by omega
            go_wp2
            clear c0 c1 c2 c3 c4
            go_loopw [10, 73] (fun v i wr => ∃ k : Nat, k ≤ N ∧ i = .int .i64 k ∧ Row w1 wr 3 1 v k (List.replicate k (.int .i64 y))) (fun _ i _ => N - (intOf i).toNat)
            case atStart => exact ⟨0, Nat.zero_le _, rfl, Row.nil ..⟩
            case round =>
              obtain ⟨k, hk, rfl, hrow⟩ := hrel
              have HR := Lib.hid hrow
              clear hrow
              by_cases hlt : k < N
              · have HK := Lib.hid (show k + 1 ≤ 1000000000 by omega)
                go_wp2_with (at_builtin; refine wp_append1 (news := [.int .i64 y]) elemInt HR.out HK.out (by decide) rfl (oneCell_int y) rfl _ _ rfl rfl rfl ?_)
                intro v2 w3 hrow2
                replace HR := Lib.hid hrow2
                clear hrow2
                go_wp2
                go_roundw
                case rel => exact ⟨k + 1, by omega, by go_num, HR.out.cast rfl (by rw [List.replicate_succ'])⟩
                case measure => simp [intOf]; omega
              · obtain rfl : k = N := by omega
                obtain ⟨oy, cy, hv2, _⟩ := HR.out.shape
                subst hv2
                replace HX := Lib.hid (HX.out.later HR.out.below)
                obtain ⟨c0, c1, c2, c3, c4⟩ := HX.out.cells
                go_wp2_with fail
                have HHV := Lib.hid (Hot_any a m g l d t oy cy (List.replicate k y) wr ((HR.out.cast (xs' := (List.replicate k y).map (Value.int .i64 ·)) rfl (by simp)).ints rfl) (by rw [List.length_replicate]; omega) (by simp [validC, HB.out]) ⟨by omega, k2⟩ (fun i hi => by rw [List.length_replicate] at hi; simp [hi]; exact hyb))
                rw [List.length_replicate] at HHV
                refine HHV.out.mono ?_
                rintro e w4 ⟨rfl, hb⟩
                replace HX := Lib.hid (HX.out.later hb)
                clear hb c0 c1 c2 c3 c4 HHV
                obtain ⟨z, hz⟩ : ∃ z, hotAt a m g l d t 0 (List.replicate k y) = z := ⟨_, rfl⟩
                rw [hz] at HHOT ⊢
                clear hz
                have hz0 := HHOT.out
                go_wp2
                go_ret
                exact ⟨rfl, HX.out.below⟩
      · clear HP
        go_wp2_with fail
        all_goals first
          | (go_ret; exact ⟨rfl, HX.out.below⟩)
          | (exfalso; omega)

theorem mods_len (p : Int) (xs : List Int) (k : Nat) (hk : k ≤ xs.length) : ((xs.take k).map (· % (p + 1))).length = k := by simp; omega
def modsV (p : Int) (xs : List Int) (k : Nat) : List Value := ((xs.take k).map (· % (p + 1))).map (Value.int .i64 ·)
theorem mods_snoc (p : Int) (xs : List Int) (k : Nat) (hk : k < xs.length) : modsV p xs (k + 1) = modsV p xs k ++ [.int .i64 (xs.getD k 0 % (p + 1))] := by
  unfold modsV
  rw [List.take_succ_eq_append_getElem hk, List.map_append, List.map_append]
  congr 1
  simp [hk]

set_option maxHeartbeats 8000000 in
theorem CableSafe_any (a m g l d t : Int) (oa : Option Addr) (cap : Nat) (xs : List Int) (w : World) (hx : Ints w oa xs) : Calls Try.prog 3 #[cabV a m g l d, .int .i64 t, .slice oa xs.length cap] w (Ret (.bool true) w) := by
  have HI := Lib.hid hx
  clear hx
  obtain ⟨v, hv⟩ : ∃ v, validC a m g l d = v := ⟨_, rfl⟩
  have HV := Lib.hid hv
  clear hv
  go_enter Try.func3, Try.ntmps3
  go_wp2_with fail
  refine (head_any _).mono ?_
  rintro e w1 ⟨rfl, hb⟩
  have HX := Lib.hid ((CB.new w a m g l d).later hb)
  clear hb
  obtain ⟨c0, c1, c2, c3, c4⟩ := HX.out.cells
  go_wp2_with fail
  refine (refValid_any a m g l d _).mono ?_
  rintro e w1 ⟨rfl, hb⟩
  replace HX := Lib.hid (HX.out.later hb)
  clear hb c0 c1 c2 c3 c4
  obtain ⟨c0, c1, c2, c3, c4⟩ := HX.out.cells
  rw [HV.out]
  cases v with
  | false =>
    go_wp2
    go_ret
    exact ⟨rfl, HX.out.below⟩
  | true =>
    cases hz : zeroC a m g l d with
    | true =>
      obtain ⟨rfl, rfl, rfl, rfl, rfl⟩ := zeroC_iff.1 hz
      clear hz
      go_wp2
      go_ret
      exact ⟨rfl, HX.out.below⟩
    | false =>
      obtain ⟨b1, b2, b3, b4, b5, b6, b7, b8, b9, b10⟩ := bound_of HV.out hz
      have hB : boundC a m g l d = true := boundC_iff.2 ⟨b1, b2, b3, b4, b5, b6, b7, b8, b9, b10⟩
      obtain ⟨P, hP⟩ := permit_ex (g := g) (room_nonneg hB).1 1000 (by omega) (fun i h1 h2 => by omega)
      have HZ := Lib.hid hz
      have HB := Lib.hid hB
      have HP := Lib.hid hP
      have hP0 := hP.1
      have hP1 := hP.2.1
      clear hz hB hP
      by_cases hc : 0 ≤ t ∧ t ≤ m ∧ xs.length ≤ 1000
      · obtain ⟨k1, k2, k3⟩ := hc
        have n1 : decide (t < 0) = false := by simp; omega
        have n2 : decide (m < t) = false := by simp; omega
        have n3 : decide (1000 < xs.length) = false := by simp; omega
        have n4 : decide ((1000 : Int) < (xs.length : Int)) = false := by simp; omega
        by_cases ha : a = 0
        · subst ha
          go_wp2_with fail
          refine (permitted_any 0 m g l d P _ HB.out HZ.out HP.out).mono ?_
          rintro e w1 ⟨rfl, hb⟩
          replace HX := Lib.hid (HX.out.later hb)
          clear hb c0 c1 c2 c3 c4
          obtain ⟨c0, c1, c2, c3, c4⟩ := HX.out.cells
          go_wp2
          clear c0 c1 c2 c3 c4
          go_loopw [10, 54] (fun v i wr => ∃ k : Nat, k ≤ xs.length ∧ i = .int .i64 k ∧ Row w1 wr 3 1 v k (modsV P xs k)) (fun _ i _ => xs.length - (intOf i).toNat)
          case atStart => exact ⟨0, Nat.zero_le _, rfl, Row.nil ..⟩
          case round =>
            obtain ⟨k, hk, rfl, hrow⟩ := hrel
            have HR := Lib.hid hrow
            clear hrow
            by_cases hlt : k < xs.length
            · obtain ⟨gb, off, hga, hcx⟩ := (HI.out.later (below_step HX.out.below HR.out.below)) k hlt
              subst hga
              have HSN := Lib.hid (mods_snoc P xs k hlt)
              obtain ⟨x, hx'⟩ : ∃ x, xs.getD k 0 = x := ⟨_, rfl⟩
              rw [hx'] at hcx HSN
              clear hx'
              by_cases hx0 : x < 0
              · go_wp2
                go_ret
                exact ⟨rfl, below_step HX.out.below HR.out.below⟩
              · have hx1 : 0 ≤ x := by omega
                have hpz : (P + 1 == 0) = false := by simp; omega
                obtain ⟨y, hy⟩ : ∃ y, x % (P + 1) = y := ⟨_, rfl⟩
                have hyt : x.tmod (P + 1) = y := by rw [← hy]; exact Int.tmod_eq_emod_of_nonneg hx1
                have hyb : 0 ≤ y ∧ y ≤ P := by have h1 := Int.emod_nonneg x (show P + 1 ≠ 0 by omega); have h2 := Int.emod_lt_of_pos x (show 0 < P + 1 by omega); omega
                rw [hy] at HSN
                have HK := Lib.hid (show k + 1 ≤ 1000000000 by omega)
                go_wp2_with (at_builtin; refine wp_append1 (news := [.int .i64 y]) elemInt HR.out HK.out (by decide) rfl (oneCell_int y) rfl _ _ rfl rfl rfl ?_)
                intro v2 w3 hrow2
                replace HR := Lib.hid hrow2
                clear hrow2 hcx hy hyt
                go_wp2
                go_roundw
                case rel => exact ⟨k + 1, by omega, by go_num, HR.out.cast rfl HSN.out.symm⟩
                case measure => simp [intOf]; omega
            · obtain rfl : k = xs.length := by omega
              obtain ⟨Y, hY⟩ : ∃ Y, (xs.take xs.length).map (· % (P + 1)) = Y := ⟨_, rfl⟩
              have hYl : Y.length = xs.length := by rw [← hY]; exact mods_len P xs _ (Nat.le_refl _)
              have hYb : ∀ y ∈ Y, 0 ≤ y ∧ y ≤ P := fun y hy => by
                rw [← hY] at hy
                obtain ⟨x, _, rfl⟩ := List.mem_map.1 hy
                have h1 := Int.emod_nonneg x (show P + 1 ≠ 0 by omega)
                have h2 := Int.emod_lt_of_pos x (show 0 < P + 1 by omega)
                omega
              unfold modsV at HR
              rw [hY] at HR
              obtain ⟨oy, cy, hv2, _⟩ := HR.out.shape
              subst hv2
              have HYI := Lib.hid (HR.out.ints (l := Y) rfl)
              have HHOT := Lib.hid (safe_plain HB.out HZ.out HP.out Y t 0 ⟨k1, k2⟩ hYb)
              have HYB := Lib.hid hYb
              have HYL := Lib.hid hYl
              rw [← hYl] at k3
              rw [← hYl]
              replace HX := Lib.hid (HX.out.later HR.out.below)
              clear hY hYl hYb n3 n4 hk hlt
              obtain ⟨wo, hwo⟩ : ∃ wo : World, wo = wr := ⟨_, rfl⟩
              subst hwo
              go_wp2
              go_loopw [13, 72] (fun u i wr2 => ∃ (k : Nat) (z : Int), k ≤ Y.length ∧ i = .int .i64 k ∧ u = .int .i64 z ∧ 0 ≤ z ∧ z ≤ m ∧ Below wo.heap.size wo wr2) (fun _ i _ => Y.length - (intOf i).toNat)
              case atStart => exact ⟨0, t, Nat.zero_le _, rfl, rfl, k1, k2, Below.refl _ _⟩
              case round =>
                obtain ⟨k, z, hk, rfl, rfl, hz0, hz1, hbel⟩ := hrel
                have HBL := Lib.hid hbel
                clear hbel
                by_cases hlt : k < Y.length
                · obtain ⟨gb, off, hga, hcx⟩ := (HYI.out.later HBL.out) k hlt
                  subst hga
                  have hym := HYB.out (Y.getD k 0) (by simp [List.getD_eq_getElem?_getD, hlt])
                  obtain ⟨y, hy'⟩ : ∃ y, Y.getD k 0 = y := ⟨_, rfl⟩
                  rw [hy'] at hcx hym
                  clear hy'
                  obtain ⟨s1, s2, s3⟩ := safe_step HB.out HZ.out HP.out ⟨hz0, hz1⟩ hym
                  obtain ⟨N, hN⟩ : ∃ N, nextN 0 m g l d z y = N := ⟨_, rfl⟩
                  rw [hN] at s1 s2 s3
                  have HS1 := Lib.hid s1
                  have hs3 : ¬ m < N := by omega
                  clear hN s1
                  have HXR := Lib.hid (HX.out.later HBL.out)
                  obtain ⟨c0, c1, c2, c3, c4⟩ := HXR.out.cells
                  go_wp2_with fail
                  refine (next_any 0 m g l d z y _).mono ?_
                  rw [HS1.out]
                  rintro e w5 ⟨rfl, hb⟩
                  replace HXR := Lib.hid (HXR.out.later hb)
                  have HBL2 := Lib.hid (below_step HBL.out hb)
                  clear hb c0 c1 c2 c3 c4 hcx
                  obtain ⟨c0, c1, c2, c3, c4⟩ := HXR.out.cells
                  go_wp2
                  go_roundw
                  case rel => exact ⟨k + 1, N, by omega, by go_num, rfl, s2, s3, HBL2.out⟩
                  case measure => simp [intOf]; omega
                · obtain rfl : k = Y.length := by omega
                  have HXR := Lib.hid (HX.out.later HBL.out)
                  obtain ⟨c0, c1, c2, c3, c4⟩ := HXR.out.cells
                  have HHV := Lib.hid (Hot_any 0 m g l d t oy cy Y wr (HYI.out.later HBL.out) (by omega) (by simp [validC, HB.out]) ⟨k1, by omega⟩ (fun i hi => by have := HYB.out (Y.getD i 0) (by simp [List.getD_eq_getElem?_getD, hi]); omega))
                  rw [HHOT.out] at HHV
                  go_wp2_with fail
                  refine HHV.out.mono ?_
                  rintro e w5 ⟨rfl, hb⟩
                  replace HXR := Lib.hid (HXR.out.later hb)
                  clear hb c0 c1 c2 c3 c4 HHV
                  go_wp2
                  go_ret
                  exact ⟨rfl, HXR.out.below⟩
        · skip
          go_wp2_with fail
          refine (permitted_any a m g l d P _ HB.out HZ.out HP.out).mono ?_
          rintro e w1 ⟨rfl, hb⟩
          replace HX := Lib.hid (HX.out.later hb)
          clear hb c0 c1 c2 c3 c4
          obtain ⟨c0, c1, c2, c3, c4⟩ := HX.out.cells
          go_wp2
          clear c0 c1 c2 c3 c4
          go_loopw [10, 54] (fun v i wr => ∃ k : Nat, k ≤ xs.length ∧ i = .int .i64 k ∧ Row w1 wr 3 1 v k (modsV P xs k)) (fun _ i _ => xs.length - (intOf i).toNat)
          case atStart => exact ⟨0, Nat.zero_le _, rfl, Row.nil ..⟩
          case round =>
            obtain ⟨k, hk, rfl, hrow⟩ := hrel
            have HR := Lib.hid hrow
            clear hrow
            by_cases hlt : k < xs.length
            · obtain ⟨gb, off, hga, hcx⟩ := (HI.out.later (below_step HX.out.below HR.out.below)) k hlt
              subst hga
              have HSN := Lib.hid (mods_snoc P xs k hlt)
              obtain ⟨x, hx'⟩ : ∃ x, xs.getD k 0 = x := ⟨_, rfl⟩
              rw [hx'] at hcx HSN
              clear hx'
              by_cases hx0 : x < 0
              · go_wp2
                go_ret
                exact ⟨rfl, below_step HX.out.below HR.out.below⟩
              · have hx1 : 0 ≤ x := by omega
                have hpz : (P + 1 == 0) = false := by simp; omega
                obtain ⟨y, hy⟩ : ∃ y, x % (P + 1) = y := ⟨_, rfl⟩
                have hyt : x.tmod (P + 1) = y := by rw [← hy]; exact Int.tmod_eq_emod_of_nonneg hx1
                have hyb : 0 ≤ y ∧ y ≤ P := by have h1 := Int.emod_nonneg x (show P + 1 ≠ 0 by omega); have h2 := Int.emod_lt_of_pos x (show 0 < P + 1 by omega); omega
                rw [hy] at HSN
                have HK := Lib.hid (show k + 1 ≤ 1000000000 by omega)
                go_wp2_with (at_builtin; refine wp_append1 (news := [.int .i64 y]) elemInt HR.out HK.out (by decide) rfl (oneCell_int y) rfl _ _ rfl rfl rfl ?_)
                intro v2 w3 hrow2
                replace HR := Lib.hid hrow2
                clear hrow2 hcx hy hyt
                go_wp2
                go_roundw
                case rel => exact ⟨k + 1, by omega, by go_num, HR.out.cast rfl HSN.out.symm⟩
                case measure => simp [intOf]; omega
            · obtain rfl : k = xs.length := by omega
              obtain ⟨Y, hY⟩ : ∃ Y, (xs.take xs.length).map (· % (P + 1)) = Y := ⟨_, rfl⟩
              have hYl : Y.length = xs.length := by rw [← hY]; exact mods_len P xs _ (Nat.le_refl _)
              have hYb : ∀ y ∈ Y, 0 ≤ y ∧ y ≤ P := fun y hy => by
                rw [← hY] at hy
                obtain ⟨x, _, rfl⟩ := List.mem_map.1 hy
                have h1 := Int.emod_nonneg x (show P + 1 ≠ 0 by omega)
                have h2 := Int.emod_lt_of_pos x (show 0 < P + 1 by omega)
                omega
              unfold modsV at HR
              rw [hY] at HR
              obtain ⟨oy, cy, hv2, _⟩ := HR.out.shape
              subst hv2
              have HYI := Lib.hid (HR.out.ints (l := Y) rfl)
              have HHOT := Lib.hid (safe_plain HB.out HZ.out HP.out Y t 0 ⟨k1, k2⟩ hYb)
              have HYB := Lib.hid hYb
              have HYL := Lib.hid hYl
              rw [← hYl] at k3
              rw [← hYl]
              replace HX := Lib.hid (HX.out.later HR.out.below)
              clear hY hYl hYb n3 n4 hk hlt
              obtain ⟨wo, hwo⟩ : ∃ wo : World, wo = wr := ⟨_, rfl⟩
              subst hwo
              go_wp2
              go_loopw [13, 72] (fun u i wr2 => ∃ (k : Nat) (z : Int), k ≤ Y.length ∧ i = .int .i64 k ∧ u = .int .i64 z ∧ 0 ≤ z ∧ z ≤ m ∧ Below wo.heap.size wo wr2) (fun _ i _ => Y.length - (intOf i).toNat)
              case atStart => exact ⟨0, t, Nat.zero_le _, rfl, rfl, k1, k2, Below.refl _ _⟩
              case round =>
                obtain ⟨k, z, hk, rfl, rfl, hz0, hz1, hbel⟩ := hrel
                have HBL := Lib.hid hbel
                clear hbel
                by_cases hlt : k < Y.length
                · obtain ⟨gb, off, hga, hcx⟩ := (HYI.out.later HBL.out) k hlt
                  subst hga
                  have hym := HYB.out (Y.getD k 0) (by simp [List.getD_eq_getElem?_getD, hlt])
                  obtain ⟨y, hy'⟩ : ∃ y, Y.getD k 0 = y := ⟨_, rfl⟩
                  rw [hy'] at hcx hym
                  clear hy'
                  obtain ⟨s1, s2, s3⟩ := safe_step HB.out HZ.out HP.out ⟨hz0, hz1⟩ hym
                  obtain ⟨N, hN⟩ : ∃ N, nextN a m g l d z y = N := ⟨_, rfl⟩
                  rw [hN] at s1 s2 s3
                  have HS1 := Lib.hid s1
                  have hs3 : ¬ m < N := by omega
                  clear hN s1
                  have HXR := Lib.hid (HX.out.later HBL.out)
                  obtain ⟨c0, c1, c2, c3, c4⟩ := HXR.out.cells
                  go_wp2_with fail
                  refine (next_any a m g l d z y _).mono ?_
                  rw [HS1.out]
                  rintro e w5 ⟨rfl, hb⟩
                  replace HXR := Lib.hid (HXR.out.later hb)
                  have HBL2 := Lib.hid (below_step HBL.out hb)
                  clear hb c0 c1 c2 c3 c4 hcx
                  obtain ⟨c0, c1, c2, c3, c4⟩ := HXR.out.cells
                  go_wp2
                  go_roundw
                  case rel => exact ⟨k + 1, N, by omega, by go_num, rfl, s2, s3, HBL2.out⟩
                  case measure => simp [intOf]; omega
                · obtain rfl : k = Y.length := by omega
                  have HXR := Lib.hid (HX.out.later HBL.out)
                  obtain ⟨c0, c1, c2, c3, c4⟩ := HXR.out.cells
                  have HHV := Lib.hid (Hot_any a m g l d t oy cy Y wr (HYI.out.later HBL.out) (by omega) (by simp [validC, HB.out]) ⟨k1, by omega⟩ (fun i hi => by have := HYB.out (Y.getD i 0) (by simp [List.getD_eq_getElem?_getD, hi]); omega))
                  rw [HHOT.out] at HHV
                  go_wp2_with fail
                  refine HHV.out.mono ?_
                  rintro e w5 ⟨rfl, hb⟩
                  replace HXR := Lib.hid (HXR.out.later hb)
                  clear hb c0 c1 c2 c3 c4 HHV
                  go_wp2
                  go_ret
                  exact ⟨rfl, HXR.out.below⟩
      · clear HP
        have hc2 : ¬ (0 ≤ t ∧ t ≤ m ∧ (xs.length : Int) ≤ 1000) := by omega
        go_wp2_with fail
        all_goals first
          | (go_ret; exact ⟨rfl, HX.out.below⟩)
          | (exfalso; omega)

end Go.Proofs.Ytmiedlgcdkggdaa
