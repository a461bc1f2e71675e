/- Chapter 07: CableRests, CableMargins, CableTight, CableSafe, walked. -/
import Derived.Test.YtmiedlgcdkggdaaWg07
import Derived.Test.YtmiedlgcdkggdaaRowG
import Derived.RegionTactic
namespace Go.Proofs.Ytmiedlgcdkggdaa
open Go.RowKit

theorem elemInt : ElemI Try.prog 24 3 1 8 := ElemI.of (by kernel_rfl) (by kernel_rfl) (by decide)

theorem rests_plain {a m g l d t x n i : Int} (hr : nextV a m g l d t x = .tuple #[.int .i64 n, .int .i64 i]) (ht : a ≤ t) : (i == 0) = false ∨ (i = 0 ∧ a ≤ n ∧ (x = 0 → n ≤ t)) := by
  rcases next_facts hr with ⟨_, rfl⟩ | ⟨_, rfl⟩ | ⟨h, rfl, rfl⟩
  · exact .inl rfl
  · exact .inl rfl
  · exact .inr ⟨rfl, nextN_amb h ht, fun hx => by subst hx; exact nextN_rest h ht⟩

set_option maxHeartbeats 4000000 in
theorem CableRests_any (a m g l d t x : Int) (w : World) : Calls Try.prog 6 #[cabV a m g l d, .int .i64 t, .int .i64 x] w (Ret (.bool true) w) := by
  obtain ⟨v, hv⟩ : ∃ v, validC a m g l d = v := ⟨_, rfl⟩
  have HV := Lib.hid hv
  clear hv
  obtain ⟨n, i, hr⟩ := nextV_two a m g l d t 0
  obtain ⟨k, j, hs⟩ := nextV_two a m g l d t x
  have HR := Lib.hid hr
  have HS := Lib.hid hs
  have HP1 := Lib.hid (rests_plain hr)
  have HP2 := Lib.hid (rests_plain hs)
  clear hr hs
  go_enter Try.func6, Try.ntmps6
  go_wp2_with fail
  refine (head_any _).mono ?_
  rintro e w1 ⟨rfl, hb⟩
  have HX := Lib.hid ((CB.new w a m g l d).later hb)
  clear hb
  obtain ⟨c0, c1, c2, c3, c4⟩ := HX.out.cells
  go_wp2_with fail
  refine (refValid_any a m g l d _).mono ?_
  rintro e w1 ⟨rfl, hb⟩
  replace HX := Lib.hid (HX.out.later hb)
  clear hb c0 c1 c2 c3 c4
  obtain ⟨c0, c1, c2, c3, c4⟩ := HX.out.cells
  rw [HV.out]
  cases v with
  | false =>
    go_wp2
    go_ret
    exact ⟨rfl, HX.out.below⟩
  | true =>
    by_cases hta : a ≤ t
    · have hp1 := HP1.out hta
      have hp2 := HP2.out hta
      have K1 := Lib.hid hp1
      have K2 := Lib.hid hp2
      clear hp1 hp2 HP1 HP2
      go_wp2_with fail
      refine (next_any a m g l d t 0 _).mono ?_
      rintro e w1 ⟨rfl, hb⟩
      replace HX := Lib.hid (HX.out.later hb)
      clear hb c0 c1 c2 c3 c4
      obtain ⟨c0, c1, c2, c3, c4⟩ := HX.out.cells
      rw [HR.out]
      go_wp2_with fail
      refine (next_any a m g l d t x _).mono ?_
      rintro e w1 ⟨rfl, hb⟩
      replace HX := Lib.hid (HX.out.later hb)
      clear hb c0 c1 c2 c3 c4
      obtain ⟨c0, c1, c2, c3, c4⟩ := HX.out.cells
      rw [HS.out]
      rcases K1.out with hi | ⟨rfl, hn1, hn2⟩ <;> rcases K2.out with hj | ⟨rfl, hk1, hk2⟩
      · clear K1 K2 HR HS
        have hi2 : ¬ i = 0 := by simpa using hi
        have hj2 : ¬ j = 0 := by simpa using hj
        go_wp2
        go_ret
        exact ⟨rfl, HX.out.below⟩
      · clear K1 K2 HR HS
        have hi2 : ¬ i = 0 := by simpa using hi
        clear hk2
        go_wp2
        go_ret
        exact ⟨rfl, HX.out.below⟩
      · clear K1 K2 HR HS
        have hj2 : ¬ j = 0 := by simpa using hj
        replace hn2 : n ≤ t := by simpa using hn2
        go_wp2
        go_ret
        exact ⟨rfl, HX.out.below⟩
      · clear K1 K2 HR HS
        replace hn2 : n ≤ t := by simpa using hn2
        clear hk2
        go_wp2
        go_ret
        exact ⟨rfl, HX.out.below⟩
    · have hta2 : t < a := by omega
      go_wp2
      go_ret
      exact ⟨rfl, HX.out.below⟩

theorem room_mono {a m l d m' l' : Int} (h1 : m ≤ m') (h2 : l ≤ l') (hl : 0 ≤ l) (hd : 1 ≤ d) (ha : a ≤ m) : min l d * (m - a) ≤ min l' d * (m' - a) :=
  Int.mul_le_mul (by omega) (by omega) (by omega) (by omega)

/-- Two cables, boxed by a call at its beginning, the second with numbers of the first; nothing else that was there has changed. -/
structure CB2 (w wr : World) (a m g l d a' m' g' l' d' : Int) : Prop where
  b1 : Blk wr w.heap.size 23 #[.int .i64 a, .int .i64 m, .int .i64 g, .int .i64 l, .int .i64 d]
  b2 : Blk wr (w.heap.size + 1) 23 #[.int .i64 a', .int .i64 m', .int .i64 g', .int .i64 l', .int .i64 d']
  below : Below w.heap.size w wr

theorem CB2.later {w wr wr' : World} {a m g l d a' m' g' l' d' : Int} (h : CB2 w wr a m g l d a' m' g' l' d') (hb : Below wr.heap.size wr wr') : CB2 w wr' a m g l d a' m' g' l' d' := ⟨h.b1.later hb, h.b2.later hb, below_step h.below hb⟩
theorem CB2.cells {w wr : World} {a m g l d a' m' g' l' d' : Int} (h : CB2 w wr a m g l d a' m' g' l' d') : wr.cell? ⟨w.heap.size, 0, none⟩ = some (.int .i64 a) ∧ wr.cell? ⟨w.heap.size, 1, none⟩ = some (.int .i64 m) ∧ wr.cell? ⟨w.heap.size, 2, none⟩ = some (.int .i64 g) ∧ wr.cell? ⟨w.heap.size, 3, none⟩ = some (.int .i64 l) ∧ wr.cell? ⟨w.heap.size, 4, none⟩ = some (.int .i64 d) ∧
    wr.cell? ⟨w.heap.size + 1, 0, none⟩ = some (.int .i64 a') ∧ wr.cell? ⟨w.heap.size + 1, 1, none⟩ = some (.int .i64 m') ∧ wr.cell? ⟨w.heap.size + 1, 2, none⟩ = some (.int .i64 g') ∧ wr.cell? ⟨w.heap.size + 1, 3, none⟩ = some (.int .i64 l') ∧ wr.cell? ⟨w.heap.size + 1, 4, none⟩ = some (.int .i64 d') :=
  ⟨h.b1.cell 0, h.b1.cell 1, h.b1.cell 2, h.b1.cell 3, h.b1.cell 4, h.b2.cell 0, h.b2.cell 1, h.b2.cell 2, h.b2.cell 3, h.b2.cell 4⟩
theorem CB2.new (w : World) (a m g l d a' m' g' l' d' : Int) : CB2 w ((w.alloc (.cells #[.int .i64 a, .int .i64 m, .int .i64 g, .int .i64 l, .int .i64 d] 23)).alloc (.cells #[.int .i64 a', .int .i64 m', .int .i64 g', .int .i64 l', .int .i64 d'] 23)) a m g l d a' m' g' l' d' :=
  ⟨(Blk.new ..).alloc _, by have := Blk.new (w.alloc (.cells #[.int .i64 a, .int .i64 m, .int .i64 g, .int .i64 l, .int .i64 d] 23)) 23 #[.int .i64 a', .int .i64 m', .int .i64 g', .int .i64 l', .int .i64 d']; rwa [World.size_alloc] at this, below_alloc (below_alloc (Below.refl _ _) _) _⟩
theorem CB2.drew {w wr : World} {a m g l d a' m' g' l' d' : Int} (h : CB2 w wr a m g l d a' m' g' l' d') : CB2 w wr.drew a m g l d a' m' g' l' d' := ⟨h.b1, h.b2, h.below.drew⟩
theorem CB2.set {w wr : World} {a m g l d a' m' g' l' d' : Int} (h : CB2 w wr a m g l d a' m' g' l' d') (x y : Int) : CB2 w ((wr.setCell ⟨w.heap.size + 1, 0, none⟩ (.int .i64 x)).setCell ⟨w.heap.size + 1, 4, none⟩ (.int .i64 y)) a m g l d x m' g' l' y :=
  ⟨(h.b1.other (by simp) _).other (by simp) _, (h.b2.set 0 _).set 4 _, (h.below.setCell (by simp) _).setCell (by simp) _⟩

set_option maxHeartbeats 4000000 in
theorem CableMargins_any (a m g l d a' m' g' l' d' : Int) (w : World) : Calls Try.prog 7 #[cabV a m g l d, cabV a' m' g' l' d'] w (Ret (.bool true) w) := by
  obtain ⟨v, hv⟩ : ∃ v, validC a m g l d = v := ⟨_, rfl⟩
  have HV := Lib.hid hv
  obtain ⟨v', hv'⟩ : ∃ v', validC a m' g' l' d = v' := ⟨_, rfl⟩
  have HV' := Lib.hid hv'
  clear hv hv'
  go_enter Try.func7, Try.ntmps7
  go_wp2_with fail
  refine (head_any _).mono ?_
  rintro e w1 ⟨rfl, hb⟩
  have HX := Lib.hid ((CB2.new w a m g l d a' m' g' l' d').later hb)
  clear hb
  obtain ⟨c0, c1, c2, c3, c4, e0, e1, e2, e3, e4⟩ := HX.out.cells
  have f0 := HX.out.b2.frozen 0
  have f4 := HX.out.b2.frozen 4
  go_wp2_with fail
  go_region
  go_wp2_with fail
  refine (refValid_any a m g l d _).mono ?_
  rintro e w2 ⟨rfl, hb⟩
  replace HX := Lib.hid ((HX.out.set a d).drew.later hb)
  clear hb c0 c1 c2 c3 c4 e0 e1 e2 e3 e4 f0 f4
  obtain ⟨c0, c1, c2, c3, c4, e0, e1, e2, e3, e4⟩ := HX.out.cells
  rw [HV.out]
  cases v with
  | false =>
    go_wp2
    go_ret
    exact ⟨rfl, HX.out.below⟩
  | true =>
    go_wp2_with fail
    refine (refValid_any a m' g' l' d _).mono ?_
    rintro e w3 ⟨rfl, hb⟩
    replace HX := Lib.hid (HX.out.later hb)
    clear hb c0 c1 c2 c3 c4 e0 e1 e2 e3 e4
    obtain ⟨c0, c1, c2, c3, c4, e0, e1, e2, e3, e4⟩ := HX.out.cells
    rw [HV'.out]
    cases v' with
    | false =>
      go_wp2
      go_ret
      exact ⟨rfl, HX.out.below⟩
    | true =>
      cases hz : zeroC a m g l d with
      | true =>
        obtain ⟨rfl, rfl, rfl, rfl, rfl⟩ := zeroC_iff.1 hz
        clear hz
        go_wp2
        go_ret
        exact ⟨rfl, HX.out.below⟩
      | false =>
        obtain ⟨b1, b2, b3, b4, b5, b6, b7, b8, b9, b10⟩ := bound_of HV.out hz
        have hz' : zeroC a m' g' l' d = false := by
          cases h : zeroC a m' g' l' d with
          | false => rfl
          | true => obtain ⟨_, _, _, _, h5⟩ := zeroC_iff.1 h; omega
        obtain ⟨_, _, d3, d4, d5, d6, d7, d8, _, _⟩ := bound_of HV'.out hz'
        have hB : boundC a m g l d = true := boundC_iff.2 ⟨b1, b2, b3, b4, b5, b6, b7, b8, b9, b10⟩
        have hB' : boundC a m' g' l' d = true := boundC_iff.2 ⟨b1, b2, d3, d4, d5, d6, d7, d8, b9, b10⟩
        obtain ⟨x, hx⟩ := permit_ex (g := g) (room_nonneg hB).1 1000 (by omega) (fun i h1 h2 => by omega)
        obtain ⟨y, hy⟩ := permit_ex (g := g') (room_nonneg hB').1 1000 (by omega) (fun i h1 h2 => by omega)
        have HZ := Lib.hid (And.intro hz hz')
        have HB := Lib.hid (And.intro hB hB')
        have HPX := Lib.hid hx
        have HPY := Lib.hid hy
        clear hz hz' hB hB' hx hy
        by_cases hc : m ≤ m' ∧ l ≤ l' ∧ g' ≤ g
        · obtain ⟨k1, k2, k3⟩ := hc
          have hxy : x ≤ y := permit_mono HPX.out HPY.out k3 (room_mono k1 k2 b7 b9 (by omega))
          by_cases ha : a = 0
          · subst ha
            go_wp2_with fail
            refine (permitted_any 0 m g l d x _ HB.out.1 HZ.out.1 HPX.out).mono ?_
            rintro e w4 ⟨rfl, hb⟩
            replace HX := Lib.hid (HX.out.later hb)
            clear hb c0 c1 c2 c3 c4 e0 e1 e2 e3 e4
            obtain ⟨c0, c1, c2, c3, c4, e0, e1, e2, e3, e4⟩ := HX.out.cells
            go_wp2_with fail
            refine (permitted_any 0 m' g' l' d y _ HB.out.2 HZ.out.2 HPY.out).mono ?_
            rintro e w5 ⟨rfl, hb⟩
            replace HX := Lib.hid (HX.out.later hb)
            clear hb c0 c1 c2 c3 c4 e0 e1 e2 e3 e4
            go_wp2
            go_ret
            exact ⟨rfl, HX.out.below⟩
          · have hk1 : ¬ m' < m := by omega
            have hk2 : ¬ l' < l := by omega
            have hk3 : ¬ g < g' := by omega
            go_wp2_with fail
            refine (permitted_any a m g l d x _ HB.out.1 HZ.out.1 HPX.out).mono ?_
            rintro e w4 ⟨rfl, hb⟩
            replace HX := Lib.hid (HX.out.later hb)
            clear hb c0 c1 c2 c3 c4 e0 e1 e2 e3 e4
            obtain ⟨c0, c1, c2, c3, c4, e0, e1, e2, e3, e4⟩ := HX.out.cells
            go_wp2_with fail
            refine (permitted_any a m' g' l' d y _ HB.out.2 HZ.out.2 HPY.out).mono ?_
            rintro e w5 ⟨rfl, hb⟩
            replace HX := Lib.hid (HX.out.later hb)
            clear hb c0 c1 c2 c3 c4 e0 e1 e2 e3 e4
            go_wp2
            go_ret
            exact ⟨rfl, HX.out.below⟩
        · clear HPX HPY
          go_wp2_with fail
          all_goals first
            | (go_ret; exact ⟨rfl, HX.out.below⟩)
            | (exfalso; omega)

end Go.Proofs.Ytmiedlgcdkggdaa
