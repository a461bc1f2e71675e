/- Chapter 40: chain.Energy. -/
import Derived.Test.YtddbobphmakmmaaWg40
namespace Go.Proofs.Ytddbobphmakmmaa
open Go.RowKit Go.Shelf
attribute [local go_sem] Oper.semAt_some

set_option maxHeartbeats 1000000 in
theorem energy1_any (b x : Rd) (g : Nat) (s : Int) (w : World) (hg : Boxed w g 3 (.int .i64 s)) (h1 : 0 ≤ s ∧ s ≤ 1000000000000) (h2 : 0 ≤ b.r ∧ b.r ≤ 1000000000) (h3 : 0 ≤ x.r ∧ x.r ≤ 1000000000) :
    Calls Try.prog 27 #[rdV b, rdV x, .pointer (some ⟨g, 0, none⟩)] w fun e w' => e = .returned (.tuple #[]) ∧ Boxed w' g 3 (.int .i64 (s + gain b x)) ∧ w.grownBy w' (some g) := by
  have hlt := hg.lt
  have c0 := hg.cell
  have f0 := hg.frozen
  have HG := Lib.hid hg
  clear hg
  by_cases hs : x.s = b.s
  · have hsb : (x.s == b.s) = true := by simpa using hs
    have e0 : gain b x = x.r - b.r := by unfold gain; rw [if_pos hs]
    rw [e0]
    clear e0 hs
    go_enter Try.func27, Try.ntmps27
    go_wp2
    go_returns
    refine ⟨rfl, ?_, ?_⟩
    · exact ((HG.out.set _).alloc _).alloc _
    · exact (grownBy_setCell' w g _).trans ((World.grownBy_alloc _ _ _).trans (World.grownBy_alloc _ _ _))
  · have hsb : (x.s == b.s) = false := by simpa using hs
    have e0 : gain b x = 0 := by unfold gain; rw [if_neg hs]
    rw [e0, Int.add_zero]
    clear e0 hs
    go_enter Try.func27, Try.ntmps27
    go_wp2
    go_returns
    exact ⟨rfl, (HG.out.alloc _).alloc _, (World.grownBy_alloc w _ _).trans (World.grownBy_alloc _ _ _)⟩

/-- The count of Energy. -/
structure EnSt (w W : World) (g : Int) : Prop where
  bg : Boxed W w.heap.size 3 (.int .i64 g)
  bel : Below w.heap.size w W
  sz : w.heap.size + 1 < W.heap.size
theorem EnSt.turn {w W W' : World} {g : Int} {B : Nat} (h : EnSt w W g) {row : Option Nat} (hB : w.heap.size ≤ B) (hg : W.grownBy W' row) (hr : ∀ r, row = some r → B ≤ r ∧ ∃ o : Obj, W.heap[r]? = some o ∧ o.isCells = false) : EnSt w W' g :=
  ⟨boxed_turn h.bg hg fun r e => (hr r e).2, h.bel.grown hg h.bel.size (fun k e => Nat.le_trans hB (hr k e).1), Nat.lt_of_lt_of_le h.sz hg.size⟩
theorem EnSt.set {w W : World} {g : Int} (h : EnSt w W g) (g' : Int) : EnSt w (W.setCell ⟨w.heap.size, 0, none⟩ (.int .i64 g')) g' :=
  ⟨h.bg.set _, h.bel.setCell (Nat.le_refl _) _, by rw [World.size_setCell]; exact h.sz⟩

/-- Behind the loop: the block for deferred calls, and what was there. -/
structure EnBe (w W : World) (D : Nat) : Prop where
  d : W.heap[D]? = some (.deferred (some []))
  bel : Below w.heap.size w W
theorem EnBe.later {w W W' : World} {D : Nat} (h : EnBe w W D) (hb : Below W.heap.size W W') : EnBe w W' D := ⟨(hb.block D (Array.getElem?_eq_some_iff.1 h.d).1).trans h.d, below_step h.bel hb⟩
theorem below_grown' {w w1 w2 : World} {b : Nat} (h : Below w.heap.size w w1) (hb : w.heap.size ≤ b) (hg : w1.grownBy w2 (some b)) : Below w.heap.size w w2 :=
  h.grown hg h.size (fun k hk => by cases hk; exact hb)
theorem EnBe.grown {w W W' : World} {D g : Nat} (h : EnBe w W D) (hg : W.grownBy W' (some g)) (hb : w.heap.size ≤ g) (hD : D ≠ g) : EnBe w W' D :=
  ⟨(hg.block D (Array.getElem?_eq_some_iff.1 h.d).1 (fun e => hD (by injection e))).trans h.d, below_grown' h.bel hb hg⟩
theorem EnBe.ends {w W : World} {D : Nat} (h : EnBe w W D) (hD : w.heap.size ≤ D) : Below w.heap.size w (W.putObj D (.deferred none)) :=
  h.bel.grown (grownBy_putObj' W D _) h.bel.size (fun k e => by cases e; exact hD)

theorem ordered_of {l : List Rd} {k : Nat} (hk : k ≤ l.length) (hok : ∀ i, i < k → okAt l i = true) (hend : k = l.length ∨ okAt l k = false) : (k = l.length ∧ ordered l = true) ∨ (k ≠ l.length ∧ ordered l = false) := by
  by_cases h : k = l.length
  · subst h
    exact .inl ⟨rfl, ordered_iff.2 hok⟩
  · refine .inr ⟨h, ?_⟩
    cases ho : ordered l with
    | false => rfl
    | true => have := ordered_iff.1 ho k (by omega); rcases hend with e | e; exact absurd e h; rw [e] at this; cases this

set_option maxRecDepth 100000 in
set_option maxHeartbeats 8000000 in
theorem Energy_any (o : Option Addr) (cap : Nat) (l : List Rd) (a b : Int) (w : World) (hr : Rds w o l) (hl : l.length ≤ 9223372036854775807) : Calls Try.prog 16 #[.slice o l.length cap, .int .i64 a, .int .i64 b] w (Ret (enV l a b) w) := by
  have HRD := Lib.hid hr
  have HLOW := Lib.hid hr.lt
  clear hr
  obtain ⟨V, hV⟩ : ∃ V, enV l a b = V := ⟨_, rfl⟩
  rw [hV]
  have HV := Lib.hid hV
  clear hV
  unfold enV enN enOk at HV
  obtain ⟨n, hn⟩ : ∃ n : Nat, 6 ≤ n := ⟨8, by omega⟩
  refine (callsIn_wide (n := n)).1 ?_
  refine callsIn_of_wp_marks Try.func16 rfl trivial ?_ rfl
  simp only [Try.ntmps16, List.size_toArray, List.length_cons, List.length_nil, Nat.reduceAdd, Nat.reduceSub, Array.replicate_succ, Array.replicate_zero, List.push_toArray, List.append_toArray, List.nil_append, List.cons_append]
  gi_wp2_with fail
  refine inCall (inOrder_any _ _ ⟨_, _, _, rfl⟩) ?_
  rintro e w' ⟨rfl, rfl⟩
  have HST0 : Hid (EnSt w ((w.alloc (.cells #[.int .i64 0] 3)).alloc (.cells #[.slice o l.length cap] 26)) 0) :=
    Lib.hid ⟨(Boxed.new w _ _).alloc _, below_alloc (below_alloc (Below.refl _ _) _) _, by simp⟩
  have HBX : Hid (Blk ((w.alloc (.cells #[.int .i64 0] 3)).alloc (.cells #[.slice o l.length cap] 26)) (w.heap.size + 1) 26 #[.slice o l.length cap]) := by
    have := Blk.new (w.alloc (.cells #[.int .i64 0] 3)) 26 #[.slice o l.length cap]
    rw [World.size_alloc] at this
    exact Lib.hid this
  gi_wp2_with fail
  generalize hW0 : (w.alloc (.cells #[.int .i64 0] 3)).alloc (.cells #[.slice o l.length cap] 26) = W0 at HST0 HBX ⊢
  have hsz : W0.heap.size = w.heap.size + 2 := by rw [← hW0]; simp
  have HSZ := Lib.hid hsz
  clear hW0 hsz
  refine wpIn_rangeFunc_ownH (F := Fence.wide) rfl (by omega) (gf := 32) (lb := #[.pointer (some ⟨w.heap.size + 1, 0, none⟩)]) rfl trivial (enters_of Try.func32 (by kernel_rfl) rfl)
    (inOrder_stops (n - 1) (w.heap.size + 1) w.heap.size o cap l hl W0 HLOW.out HBX.out (HRD.out.later HST0.out.bel)) (fun h k => h.trans k)
    (fun W lb ob ob' h1 h2 _ _ => ⟨(Below.refl _ _).grown (grownBy_putObj' W lb ob') (by have := (Array.getElem?_eq_some_iff.1 h2).1; have := HSZ.out; omega) (fun k e => by cases e; have := HSZ.out; omega), World.putObj_heap_other (by have := HSZ.out; omega)⟩)
    (Below.refl _ _) (fun _ => rfl)
    (fun pre W => EnSt w W (pre.length : Nat))
    (fun _ _ _ => False)
    (fun s A B row hs hg hr => hs.turn (by have := HSZ.out; omega) hg hr)
    (fun c s A B row hs hg hr => hs)
    HST0.out
    (fun x a' W => a' = { tmps := #[.slice o l.length cap, .int .i64 a, .int .i64 b, undef, undef, undef, .int .i64 0, .int .i64 0, .pointer (some ⟨w.heap.size, 0, none⟩), undef, undef, undef, .slice o l.length cap, .func (.func 32) #[] #[.pointer (some ⟨w.heap.size + 1, 0, none⟩)], .int .i64 x.1, rdV x.2, undef, undef, undef, undef, undef, undef, undef, undef, undef, undef, undef, undef, undef, undef, undef, undef, undef, undef, undef, undef, undef, undef, undef, undef, undef, undef, undef, undef, undef, undef, undef, undef, undef, undef, undef, undef, undef, undef, undef, undef], defers := [] })
    (fun _ _ _ _ _ _ hs _ _ => hs)
    ?assign ?body ?done ?stop
  case assign =>
    rintro lp pre x W K hi hK
    have HK := Lib.hid hK
    clear hK
    gi_wp2
    exact HK.out _ _ (KeepsFrom.refl _ _) ⟨Below.refl _ _, rfl⟩ hi rfl
  case body =>
    rintro lp pre ⟨i, x⟩ a' W _ _ hst rfl hpl
    have HS := Lib.hid hst
    have cg := hst.bg.cell
    have fg := hst.bg.frozen
    clear hst
    have e1 : IntKind.i64.wrap ((pre.length : Int) + 1) = (pre.length : Int) + 1 := IntWalk.i64_in _ (by omega)
    gi_wp2
    refine ⟨(KeepsOthers.setCell _ _ _).from _, kpt_set (by dsimp only; omega) (by dsimp only; omega) _, ?_⟩
    show EnSt w _ (((pre ++ [(i, x)]).length : Nat) : Int)
    rw [show (((pre ++ [(i, x)]).length : Nat) : Int) = (pre.length : Int) + 1 by simp]
    exact HS.out.set _
  case stop =>
    rintro D c pre W _ _ h _
    exact h.elim
  case done =>
    rintro D xs W hD ⟨k, hk, rfl, hok, hend⟩ hst hKD
    rw [enum_length] at hst
    have HBE : Hid (EnBe w W D) := Lib.hid ⟨hKD, hst.bel⟩
    have hDw : w.heap.size ≤ D := by have := HSZ.out; omega
    have cg := hst.bg.cell
    have HORD := Lib.hid (ordered_of hk hok hend)
    clear hst hKD hok hend
    obtain ⟨q, hq⟩ : ∃ q, ordered l = q := ⟨_, rfl⟩
    rw [hq] at HORD HV
    have HQ := Lib.hid hq
    clear hq
    cases q with
    | false =>
      have hkn : ¬ (k : Int) = (l.length : Int) := by rcases HORD.out with ⟨_, h⟩ | ⟨h, _⟩; cases h; omega
      obtain rfl : .tuple #[.int .i64 0, .int .i64 1] = V := HV.out
      gi_wp2
      refine ⟨by simp, .inl ⟨_, _, rfl, run_takeDeferred HBE.out.d, ?_⟩⟩
      exact ⟨_, by first | (simp [results, Try.results16]; done) | (simp [results, Try.results16]; rfl), rfl, HBE.out.ends hDw⟩
    | true =>
      obtain rfl : k = l.length := by rcases HORD.out with ⟨h, _⟩ | ⟨_, h⟩; exact h; cases h
      have hl64 := ordered_le HQ.out
      by_cases hc : 1 ≤ a ∧ a ≤ b ∧ b ≤ (l.length : Int)
      · obtain ⟨k1, k2, k3⟩ := hc
        rw [show decide (1 ≤ a ∧ a ≤ b ∧ b ≤ (l.length : Int)) = true by simp [k1, k2, k3]] at HV
        have n1 : decide (a < 1) = false := by simp; omega
        have n2 : decide (b < a) = false := by simp; omega
        have n3 : decide ((l.length : Int) < b) = false := by simp; omega
        obtain ⟨A, hA⟩ : ∃ A : Nat, a = (A : Int) := ⟨a.toNat, by omega⟩
        obtain ⟨E, hE⟩ : ∃ E : Nat, b = (A : Int) + (E : Int) := ⟨(b - a).toNat, by omega⟩
        subst hA hE
        rw [show ((A : Int) + (E : Int) - (A : Int)).toNat = E by omega, Int.toNat_natCast] at HV
        obtain rfl : .tuple #[.int .i64 (energy l A E), .int .i64 0] = V := HV.out
        clear HV
        gi_wp2
        clear n1 n2 n3 cg
        refine wpIn_wide.2 ?_
        have HBE2 : Hid (EnBe w (W.alloc (.cells #[.int .i64 0] 3)) D) := Lib.hid (HBE.out.later (below_alloc (Below.refl _ _) _))
        have hDW : D < W.heap.size := (Array.getElem?_eq_some_iff.1 HBE.out.d).1
        have hWs := HBE.out.bel.size
        go_loopw [11] (fun i wr => ∃ d : Nat, d ≤ E ∧ i = .int .i64 ((A + d : Nat) : Int) ∧ Boxed wr W.heap.size 3 (.int .i64 (energy l A d)) ∧ EnBe w wr D) (fun i _ => A + E - (intOf i).toNat)
        case atStart => exact ⟨0, Nat.zero_le _, rfl, Boxed.new .., HBE2.out⟩
        case round =>
          obtain ⟨d, hd, rfl, hbx, hbe⟩ := hrel
          have HB3 := Lib.hid hbe
          have HBX3 := Lib.hid hbx
          clear hbe hbx HBE2
          have hen := energy_nonneg HQ.out (a := A) (by omega) (d := d) (by omega)
          by_cases hlt : d < E
          · obtain ⟨i, hi⟩ : ∃ i, A + d = i := ⟨_, rfl⟩
            obtain ⟨b1, o1, h1, hx⟩ := (HRD.out.later HB3.out.bel) i (by omega)
            obtain ⟨b2, o2, h2, hy⟩ := (HRD.out.later HB3.out.bel) (i - 1) (by omega)
            rw [h1] at h2
            injection h2 with h2
            injection h2 with h2 h3
            subst h1 h2 h3
            have hgx := getR_range HQ.out (i := i) (by omega)
            have hgy := getR_range HQ.out (i := i - 1) (by omega)
            have HST := Lib.hid (show energy l A (d + 1) = energy l A d + gain (getR l (i - 1)) (getR l i) by rw [energy, hi])
            obtain ⟨x, hxe⟩ : ∃ x, getR l i = x := ⟨_, rfl⟩
            obtain ⟨y, hye⟩ : ∃ y, getR l (i - 1) = y := ⟨_, rfl⟩
            rw [hxe] at hx HST hgx
            rw [hye] at hy HST hgy
            obtain ⟨j, hj⟩ : ∃ j, i - 1 = j := ⟨_, rfl⟩
            rw [hj] at hy
            have HX := Lib.hid hx
            have HY := Lib.hid hy
            clear hxe hye hx hy
            obtain ⟨S, hS⟩ : ∃ S, energy l A d = S := ⟨_, rfl⟩
            rw [hS] at hen HST HBX3
            have y1 : (0 : Int) ≤ (i : Int) := by omega
            have y2 : (i : Int) < (l.length : Int) := by omega
            have y3 : (0 : Int) ≤ (j : Int) := by omega
            have y4 : (j : Int) < (l.length : Int) := by omega
            have e1 : IntKind.i64.wrap ((i : Int) - 1) = (j : Int) := (IntWalk.i64_in _ (by omega)).trans (by omega)
            have hiD : (i : Int) < (A : Int) + (E : Int) := by omega
            rw [hi]
            have HI := Lib.hid (And.intro hi hj)
            have hib : i + 1 ≤ 1000 := by omega
            have hSb : 0 ≤ S ∧ S ≤ 1000000000000 := by omega
            clear hi hj hS hen
            go_wp2
            refine wp_region_B 10 (fun w'' => Below wr.heap.size wr w'') mixed (by kernel_rfl) (below_closed wr) (Below.refl _ _).drew ?_
            simp only [List.take_succ_cons, List.take_zero, List.drop_succ_cons, List.drop_zero]
            intro KR hR
            have HR := Lib.hid hR
            clear hR
            have HCC := Lib.hid (show ∀ w'', Below wr.heap.size wr w'' → w''.cell? ⟨b1, o1 + i * 5, none⟩ = some (.int .i64 x.s) ∧ w''.cell? ⟨b1, o1 + i * 5 + 1, none⟩ = some (.int .i64 x.n) ∧ w''.cell? ⟨b1, o1 + i * 5 + 2, none⟩ = some (.int .i64 x.m) ∧ w''.cell? ⟨b1, o1 + i * 5 + 3, none⟩ = some (.int .i64 x.r) ∧ w''.cell? ⟨b1, o1 + i * 5 + 4, none⟩ = some (.int .u64 x.k) ∧ w''.cell? ⟨b1, o1 + j * 5, none⟩ = some (.int .i64 y.s) ∧ w''.cell? ⟨b1, o1 + j * 5 + 1, none⟩ = some (.int .i64 y.n) ∧ w''.cell? ⟨b1, o1 + j * 5 + 2, none⟩ = some (.int .i64 y.m) ∧ w''.cell? ⟨b1, o1 + j * 5 + 3, none⟩ = some (.int .i64 y.r) ∧ w''.cell? ⟨b1, o1 + j * 5 + 4, none⟩ = some (.int .u64 y.k) from fun w'' hw => ⟨(HX.out.later hw).1, (HX.out.later hw).2.1, (HX.out.later hw).2.2.1, (HX.out.later hw).2.2.2.1, (HX.out.later hw).2.2.2.2, (HY.out.later hw).1, (HY.out.later hw).2.1, (HY.out.later hw).2.2.1, (HY.out.later hw).2.2.2.1, (HY.out.later hw).2.2.2.2⟩)
            repeat (first
              | ((with_reducible refine wpB_skip ?_ ?_); exact rfl; simp only [Act.put, List.setIfInBounds_toArray, List.set_cons_zero, List.set_cons_succ])
              | (apply wpB_val rfl
                 · (intro w' hw'; obtain ⟨c0, c1, c2, c3, c4, c5, c6, c7, c8, c9⟩ := HCC.out w' hw'; go_simp; with_reducible rfl)
                 simp only [Act.put, List.setIfInBounds_toArray, List.set_cons_zero, List.set_cons_succ]))
            refine wpB_nil (HR.out _ (fun w2 hw2 => ?_))
            clear HR HCC
            have HB4 := Lib.hid (HB3.out.later hw2)
            have HBX4 := Lib.hid (boxed_later HBX3.out hw2)
            clear hw2
            go_wp2_with fail
            refine (energy1_any y x W.heap.size S _ HBX4.out hSb hgy hgx).mono ?_
            rintro e w3 ⟨rfl, hbx3, hg3⟩
            rw [← HST.out] at hbx3
            have HBX5 := Lib.hid hbx3
            have HB5 := Lib.hid (HB4.out.grown hg3 hWs (by omega))
            clear hbx3 hg3
            go_wp2
            go_roundw
            case rel =>
              refine ⟨d + 1, by omega, ?_, HBX5.out, HB5.out⟩
              rw [← HI.out.1]; go_num
            case measure => have := HI.out.1; simp [intOf]; omega
          · obtain rfl : d = E := by omega
            have cs := HBX3.out.cell
            go_wp2
            gi_wp2
            refine ⟨by simp, .inl ⟨_, _, rfl, run_takeDeferred HB3.out.d, ?_⟩⟩
            exact ⟨_, by first | (simp [results, Try.results16]; done) | (simp [results, Try.results16]; rfl), rfl, HB3.out.ends hDw⟩
      · rw [show decide (1 ≤ a ∧ a ≤ b ∧ b ≤ (l.length : Int)) = false by simpa using hc] at HV
        obtain rfl : .tuple #[.int .i64 0, .int .i64 1] = V := HV.out
        gi_wp2
        all_goals first
          | (refine ⟨by simp, .inl ⟨_, _, rfl, run_takeDeferred HBE.out.d, ?_⟩⟩; exact ⟨_, by first | (simp [results, Try.results16]; done) | (simp [results, Try.results16]; rfl), rfl, HBE.out.ends hDw⟩)
          | (exfalso; omega)

end Go.Proofs.Ytddbobphmakmmaa
