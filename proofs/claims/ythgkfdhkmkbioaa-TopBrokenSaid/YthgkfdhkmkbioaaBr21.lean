/- TopBroken: the jobs that replan.Keep keeps get all their energy; right cuts for the others. -/
import Derived.Test.YthgkfdhkmkbioaaTp21
import Derived.Test.YthgkfdhkmkbioaaCh21
namespace Go.Proofs.Ythgkfdhkmkbioaa
open Go.RowKit Go.Shelf
attribute [local go_sem] Oper.semAt_some

def U8s (w : World) (o : Option Addr) (l : List Nat) : Prop := ∀ i, i < l.length → ∃ b off, o = some ⟨b, off, none⟩ ∧ w.cell? ⟨b, off + i, none⟩ = some (.int .u8 (l.getD i 0 : Nat)) ∧ l.getD i 0 < 256
theorem U8s.later {w w' : World} {o : Option Addr} {l : List Nat} (h : U8s w o l) (hb : Below w.heap.size w w') : U8s w' o l := fun i hi => by
  obtain ⟨b, off, h1, h2, h3⟩ := h i hi
  exact ⟨b, off, h1, cell_kept hb h2, h3⟩
/-- Jobs and a supply, with which they can be met. -/
structure NowI (w wr : World) (m : Nat) (v1 v2 : Value) (J : List Jb) (N : List Int) : Prop where
  bel : Below w.heap.size w wr
  ex : ∃ o1 c1 o2 c2, v1 = .slice o1 J.length c1 ∧ v2 = .slice o2 m c2 ∧ JobsM wr o1 J ∧ Ints wr o2 N ∧ m ≤ c2
  len : N.length = m
  val : ValidP J N
  fe : Feas J N
/-- One slot on. -/
theorem NowI.next {w W W' : World} {m : Nat} {v1 v2 : Value} {J J' : List Jb} {N : List Int} (h : NowI w W m v1 v2 J N) (hb : Below W.heap.size W W') {o1 o2 : Option Addr} {c1 c2 : Nat} (h1 : W'.ownsRow W.heap.size 27 5 (.slice o1 J'.length c1) J'.length (flatJ J')) (h2 : W'.ownsRow W.heap.size 3 1 (.slice o2 (N.drop 1).length c2) (N.drop 1).length (intsV (N.drop 1))) (hl : LeftOk J N J') : NowI w W' (m - 1) (.slice o1 J'.length c1) (.slice o2 (N.drop 1).length c2) J' (N.drop 1) := by
  have hdl : (N.drop 1).length = m - 1 := by rw [List.length_drop, h.len]
  have hv := hl.val [] (fun x hx => by cases hx) (by have := h.val.s24; simp; omega)
  rw [List.append_nil] at hv
  obtain ⟨o, c, e, hc⟩ := ownsRow_shapeQ h2
  cases e
  refine ⟨below_step h.bel hb, ⟨o1, c1, o2, c2, rfl, by rw [hdl], row_jobs h1, row_ints h2, by omega⟩, hdl, hv.1, hv.2⟩
/-- The supply that got less. -/
structure LowI (w wr : World) (m : Nat) (v : Value) (Lw : List Int) : Prop where
  bel : Below w.heap.size w wr
  row : wr.ownsRow w.heap.size 3 1 v m (intsV Lw)
  len : Lw.length = m
  bd : ∀ x ∈ Lw, 0 ≤ x ∧ x ≤ 1000
section
variable {w wr : World} {m g c : Nat} {Lw : List Int}
theorem LowI.cell (h : LowI w wr m (.slice (some ⟨g, 0, none⟩) m c) Lw) {k : Nat} (hk : k < m) : wr.cell? ⟨g, k, none⟩ = some (.int .i64 (Lw.getD k 0)) := row_cell h.row h.len hk
theorem LowI.bd' {v : Value} (h : LowI w wr m v Lw) {k : Nat} (hk : k < m) : 0 ≤ Lw.getD k 0 ∧ Lw.getD k 0 ≤ 1000 := h.bd _ (by rw [List.getD_eq_getElem?_getD, List.getElem?_eq_getElem (by rw [h.len]; exact hk)]; exact List.getElem_mem _)
theorem LowI.fr (h : LowI w wr m (.slice (some ⟨g, 0, none⟩) m c) Lw) (k : Nat) : wr.frozen? ⟨g, k, none⟩ = false := h.row.frozenAt k
theorem LowI.later {v : Value} {wr' : World} (h : LowI w wr m v Lw) (hb : Below wr.heap.size wr wr') : LowI w wr' m v Lw := ⟨below_step h.bel hb, ownsRow_later h.row hb, h.len, h.bd⟩
theorem LowI.set (h : LowI w wr m (.slice (some ⟨g, 0, none⟩) m c) Lw) {k : Nat} (_ : k < m) (u : Int) (hu : 0 ≤ u ∧ u ≤ 1000) : LowI w (wr.setCell ⟨g, k, none⟩ (.int .i64 u)) m (.slice (some ⟨g, 0, none⟩) m c) (Lw.set k u) := by
  refine ⟨h.bel.setCell (h.row.lt g rfl).1 _, ?_, by rw [List.length_set]; exact h.len, fun x hx => ?_⟩
  · rw [← intsV_set]
    exact setB_row h.row k _
  · rcases List.mem_or_eq_of_mem_set hx with h1 | rfl
    · exact h.bd x h1
    · exact hu
end
def lenS : Value → Nat
  | .slice _ n _ => n
  | _ => 0
set_option maxRecDepth 100000 in
set_option maxHeartbeats 32000000 in
theorem broken_any (w : World) (J : List Jb) (S : List Int) (a : Nat) (l : List Nat) (oj os ol : Option Addr) (cj cs cl : Nat) (hj : JobsM w oj J) (hs : Ints w os S) (hl : U8s w ol l) (ha : a < 256) (hcs : S.length ≤ cs) (_hbj : J.length ≤ 9223372036854775807) (hbs : S.length ≤ 9223372036854775807) (hbl : l.length ≤ 9223372036854775807) :
    Calls Try.prog 5 #[.slice oj J.length cj, .slice os S.length cs, .int .u8 (a : Nat), .slice ol l.length cl] w (Ret (.bool true) w) := by
  have HJ := Lib.hid hj
  have HS := Lib.hid hs
  have HL := Lib.hid hl
  clear hj hs hl
  go_enter Try.func5, Try.ntmps5
  go_wp2_with fail
  refine (r7jobs_any w).mono ?_
  rintro _ W1 ⟨rfl, hb1⟩
  have HB1 := Lib.hid hb1
  clear hb1
  by_cases h0 : S.length = 0
  · have d0 : ((S.length : Int) == 0) = true := beq_iff_eq.2 (by omega)
    have d0b : (S.length == 0) = true := beq_iff_eq.2 h0
    go_wp2
    go_ret
    exact ⟨rfl, HB1.out⟩
  have d0 : ((S.length : Int) == 0) = false := beq_eq_false_iff_ne.2 (by omega)
  have d0b : (S.length == 0) = false := beq_eq_false_iff_ne.2 h0
  by_cases h12 : 12 < S.length
  · have d1 : decide ((12 : Int) < (S.length : Int)) = true := decide_eq_true (by omega)
    have d1b : decide (12 < S.length) = true := decide_eq_true h12
    go_wp2
    go_ret
    exact ⟨rfl, HB1.out⟩
  have d1 : decide ((12 : Int) < (S.length : Int)) = false := decide_eq_false (by omega)
  have d1b : decide (12 < S.length) = false := decide_eq_false h12
  have HVA := Lib.hid (refValid_any J S oj os cj cs W1 (HJ.out.later HB1.out) (HS.out.later HB1.out))
  cases hvb : validP J S with
  | false =>
    rw [hvb] at HVA
    clear hvb
    go_wp2_with fail
    refine HVA.out.mono ?_
    rintro _ W2 ⟨rfl, hb2⟩
    have HB2 := Lib.hid (below_step HB1.out hb2)
    clear hb2 HVA
    go_wp2
    go_ret
    exact ⟨rfl, HB2.out⟩
  | true =>
    rw [hvb] at HVA
    have HV := Lib.hid (validP_iff.1 hvb)
    clear hvb
    go_wp2_with fail
    refine HVA.out.mono ?_
    rintro _ W2 ⟨rfl, hb2⟩
    have HB2 := Lib.hid (below_step HB1.out hb2)
    have HSC := Lib.hid (sched_any W2 J S oj os cj cs (HJ.out.later HB2.out) (HS.out.later HB2.out) HV.out)
    clear hb2 HVA HB1 d0 d0b d1 d1b
    go_wp2_with fail
    refine HSC.out.mono ?_
    rintro _ W3 hso
    rcases hso.ex with ⟨AL, OB, L, P, rfl, _, _, _, _, _, hP⟩ | ⟨v1, v2, C, T, rfl, hr1, hr2, _⟩
    · have HFE : Hid (Feas J S) := Lib.hid ⟨P, hP⟩
      have HB3 := Lib.hid (below_alloc (below_step HB2.out hso.bel) (.cells #[.slice none 0 0, .slice none 0 0] 30))
      clear hP hso HSC HB2
      obtain ⟨W4, hW4⟩ : ∃ W, W = W3.alloc (.cells #[.slice none 0 0, .slice none 0 0] 30) := ⟨_, rfl⟩
      go_upto_region 5 with (fail)
      rw [← hW4] at HB3 ⊢
      clear hW4
      go_upto_region 9 with (fail)
      obtain ⟨r, hr⟩ : ∃ r : Nat, (a : Int) % (S.length : Int) = (r : Nat) ∧ r < S.length := ⟨a % S.length, by push_cast; rfl, Nat.mod_lt _ (by omega)⟩
      rw [hr.1]
      have hrl := hr.2
      clear hr
      obtain ⟨M, hM⟩ : ∃ M, S.length = M := ⟨_, rfl⟩
      have HN4 : Hid (NowI w W4 (M - 0) (.slice oj J.length cj) (.slice os M cs) J S) := Lib.hid ⟨HB3.out, ⟨oj, cj, os, cs, rfl, rfl, HJ.out.later HB3.out, HS.out.later HB3.out, by omega⟩, hM, HV.out, HFE.out⟩
      rw [hM] at hrl h0 h12 hcs ⊢
      clear hM HB3
      go_loopw [13, 14, 64] (fun v1 v2 iv wr => ∃ (q : Nat) (J' : List Jb) (N : List Int), q ≤ r ∧ iv = .int .i64 q ∧ NowI w wr (M - q) v1 v2 J' N) (fun _ _ iv _ => r - (intOf iv).toNat)
      case atStart => exact ⟨0, J, S, Nat.zero_le _, rfl, HN4.out⟩
      case round =>
        obtain ⟨q, J', N, hq, rfl, hn⟩ := hrel
        obtain ⟨wA, rfl⟩ : ∃ wA : World, wA = wr := ⟨_, rfl⟩
        clear HN4
        obtain ⟨o1, c1, o2, c2, rfl, rfl, hjm, hnm, hmc⟩ := hn.ex
        have HN := Lib.hid hn
        have HJM := Lib.hid hjm
        have HNM := Lib.hid hnm
        clear hn hjm hnm
        by_cases hlt : q < r
        · have HSL := Lib.hid (slot_any wA J' N o1 o2 c1 c2 HJM.out HNM.out HN.out.val HN.out.fe (by rw [HN.out.len]; omega) (by rw [HN.out.len]; exact hmc))
          rw [HN.out.len] at HSL
          go_wp2_with fail
          refine HSL.out.mono ?_
          rintro _ W5 ⟨hb5, J2, p1, p2, k1, k2, rfl, hr1, hr2, hle⟩
          have HN5 := Lib.hid (HN.out.next hb5 hr1 hr2 hle)
          rw [show M - q - 1 = M - (q + 1) by omega] at HN5
          obtain ⟨T, hT⟩ : ∃ T, N.drop 1 = T := ⟨_, rfl⟩
          rw [hT] at HN5 ⊢
          clear hT
          clear hb5 hr1 hr2 hle HSL
          go_wp2
          go_round
          case rel => exact ⟨q + 1, J2, T, hlt, by go_num, HN5.out⟩
          case measure => exact meas_lt hlt
        · obtain rfl : q = r := by omega
          go_upto_region 15 with (fail)
          obtain ⟨m, hm⟩ : ∃ m, M - q = m := ⟨_, rfl⟩
          have hm1 : 1 ≤ m := by omega
          have hm12 : m ≤ 12 := by omega
          rw [hm] at HN hmc ⊢
          clear hm hq hlt hrl h0 h12 hcs
          obtain ⟨sb, so, rfl, _⟩ := HNM.out 0 (by rw [HN.out.len]; omega)
          have HSR := Lib.hid (ints_src (c := c2) HNM.out (fun h => by cases h))
          rw [HN.out.len] at HSR
          obtain ⟨X, hX⟩ : ∃ X, intsV N = X := ⟨_, rfl⟩
          have HX := Lib.hid hX
          rw [hX] at HSR
          have H1C := Lib.hid (show ∀ u ∈ X, u.oneCell' = true from fun u hu => by
            rw [← HX.out] at hu
            exact oneInts N u hu)
          clear hX
          have HR0 := Lib.hid (show Row wA (wA.alloc (.cells #[] 3)) 3 1 (.slice (some ⟨wA.heap.size, 0, none⟩) 0 0) 0 [] from Row.lit (Below.refl _ _) #[] 0 (by decide) rfl)
          have HCC := Lib.hid (show ∀ (j : Nat) (u : Value), X[j]? = some u → (wA.alloc (.cells #[] 3)).cell? ((⟨sb, so, none⟩ : Addr).add j) = some u from fun j u hj => by
            rw [Addr.add_lit]
            exact cell_kept (below_alloc (Below.refl _ _) (.cells #[] 3)) (HSR.out.2.2 sb so j u rfl hj))
          have HLL := Lib.hid HSR.out.1
          go_wp2_with (at_builtin; refine wp_appendN elemI HR0.out (k := m) (c := c2) (news := X) (by omega) (by decide) HLL.out H1C.out HCC.out rfl (.tmp 78) (.tmp 79) rfl rfl rfl ?_)
          intro v18 w6 hrow
          have HLI : Hid (LowI wA w6 m v18 N) := Lib.hid ⟨hrow.below, by rw [HX.out]; exact hrow.own, HN.out.len, HN.out.val.s⟩
          clear hrow HCC HLL HR0 H1C HSR HX
          obtain ⟨o18, c18, rfl, hc18⟩ := ownsRow_shapeQ HLI.out.row
          obtain ⟨g, rfl⟩ : ∃ g, o18 = some ⟨g, 0, none⟩ := by
            rcases HLI.out.row.2 with ⟨h1, h2⟩ | ⟨g, c, _, h1, _⟩
            · omega
            · cases h1
              exact ⟨g, rfl⟩
          go_wp2_with fail
          go_loopw [83] (fun iv wr => ∃ (k : Nat) (Lw : List Int), k ≤ m ∧ iv = .int .i64 k ∧ LowI wA wr m (.slice (some ⟨g, 0, none⟩) m c18) Lw) (fun iv _ => m - (intOf iv).toNat)
          case atStart => exact ⟨0, N, Nat.zero_le _, rfl, HLI.out⟩
          case round =>
            obtain ⟨k, Lw, hk, rfl, hli⟩ := hrel
            obtain ⟨wB, rfl⟩ : ∃ wB : World, wB = wr := ⟨_, rfl⟩
            clear HLI
            have HLI := Lib.hid hli
            clear hli
            by_cases hlt : k < m
            · by_cases hkl : k < l.length
              · obtain ⟨lb, lo, rfl, l0, l1⟩ := (HL.out.later (below_step HN.out.bel HLI.out.bel)) k hkl
                have x0 := HLI.out.cell hlt
                have hxb := HLI.out.bd' hlt
                obtain ⟨x, hx⟩ : ∃ x, Lw.getD k 0 = x := ⟨_, rfl⟩
                rw [hx] at x0 hxb
                obtain ⟨y, hy⟩ : ∃ y, l.getD k 0 = y := ⟨_, rfl⟩
                rw [hy] at l0 l1
                clear hx hy
                have y1 : (0 : Int) ≤ (k : Int) := by omega
                have y2 : (k : Int) < (m : Int) := by omega
                have y3 : (k : Int) < (l.length : Int) := by omega
                have d3 : decide ((k : Int) < (l.length : Int)) = true := decide_eq_true y3
                have f0 := HLI.out.fr k
                have e1 : IntKind.i64.wrap (y : Int) = y := IntWalk.i64_in _ (by omega)
                go_wp2_with fail
                by_cases hpos : 0 < x - (y : Int)
                · have dp : decide (0 < x - (y : Int)) = true := decide_eq_true hpos
                  refine wp_region_B 14 (fun w'' => Below wB.heap.size wB w'') mixed (by kernel_rfl) (below_closed wB) (Below.refl _ _).drew ?_
                  simp only [List.take_succ_cons, List.take_zero, List.drop_succ_cons, List.drop_zero]
                  intro KR hR
                  have HR := Lib.hid hR
                  clear hR
                  have HCC := Lib.hid (show ∀ w'', Below wB.heap.size wB w'' → w''.cell? ⟨g, k, none⟩ = some (.int .i64 x) ∧ w''.cell? ⟨lb, lo + k, none⟩ = some (.int .u8 (y : Nat)) from fun w'' hw => ⟨cell_kept hw x0, cell_kept hw l0⟩)
                  apply wpB_val rfl
                  · (intro w' hw'; go_simp; with_reducible rfl)
                  simp only [Act.put, List.setIfInBounds_toArray, List.set_cons_zero, List.set_cons_succ]
                  apply wpB_val rfl
                  · (intro w' hw'; go_simp; with_reducible rfl)
                  simp only [Act.put, List.setIfInBounds_toArray, List.set_cons_zero, List.set_cons_succ]
                  apply wpB_val rfl
                  · (intro w' hw'; go_simp; with_reducible rfl)
                  simp only [Act.put, List.setIfInBounds_toArray, List.set_cons_zero, List.set_cons_succ]
                  apply wpB_val rfl
                  · (intro w' hw'; go_simp; with_reducible rfl)
                  simp only [Act.put, List.setIfInBounds_toArray, List.set_cons_zero, List.set_cons_succ]
                  apply wpB_val rfl
                  · (intro w' hw'; go_simp; with_reducible rfl)
                  simp only [Act.put, List.setIfInBounds_toArray, List.set_cons_zero, List.set_cons_succ]
                  apply wpB_val rfl
                  · (intro w' hw'; obtain ⟨c0, c1⟩ := HCC.out w' hw'; go_simp; with_reducible rfl)
                  simp only [Act.put, List.setIfInBounds_toArray, List.set_cons_zero, List.set_cons_succ]
                  apply wpB_val rfl
                  · (intro w' hw'; go_simp; with_reducible rfl)
                  simp only [Act.put, List.setIfInBounds_toArray, List.set_cons_zero, List.set_cons_succ]
                  apply wpB_val rfl
                  · (intro w' hw'; go_simp; with_reducible rfl)
                  simp only [Act.put, List.setIfInBounds_toArray, List.set_cons_zero, List.set_cons_succ]
                  apply wpB_val rfl
                  · (intro w' hw'; go_simp; with_reducible rfl)
                  simp only [Act.put, List.setIfInBounds_toArray, List.set_cons_zero, List.set_cons_succ]
                  apply wpB_val rfl
                  · (intro w' hw'; obtain ⟨c0, c1⟩ := HCC.out w' hw'; go_simp; with_reducible rfl)
                  simp only [Act.put, List.setIfInBounds_toArray, List.set_cons_zero, List.set_cons_succ]
                  apply wpB_val rfl
                  · (intro w' hw'; go_simp; with_reducible rfl)
                  simp only [Act.put, List.setIfInBounds_toArray, List.set_cons_zero, List.set_cons_succ]
                  apply wpB_val rfl
                  · (intro w' hw'; go_simp; with_reducible rfl)
                  simp only [Act.put, List.setIfInBounds_toArray, List.set_cons_zero, List.set_cons_succ]
                  apply wpB_val rfl
                  · (intro w' hw'; go_simp; with_reducible rfl)
                  simp only [Act.put, List.setIfInBounds_toArray, List.set_cons_zero, List.set_cons_succ]
                  apply wpB_val rfl
                  · (intro w' hw'; go_simp; with_reducible rfl)
                  simp only [Act.put, List.setIfInBounds_toArray, List.set_cons_zero, List.set_cons_succ]
                  refine wpB_nil (HR.out _ (fun w2 hw2 => ?_))
                  clear HR HCC
                  have HL2 := Lib.hid (HLI.out.later hw2)
                  have f2 := HL2.out.fr k
                  have x2 := HL2.out.cell hlt
                  have HST := Lib.hid (HL2.out.set (k := k) hlt (x - (y : Int)) (by omega))
                  clear hw2 x0 f0
                  go_wp2
                  go_round
                  case rel => exact ⟨k + 1, _, hlt, by go_num, HST.out⟩
                  case measure => exact meas_lt hlt
                · have dp : decide (0 < x - (y : Int)) = false := decide_eq_false hpos
                  refine wp_region_B 14 (fun w'' => Below wB.heap.size wB w'') mixed (by kernel_rfl) (below_closed wB) (Below.refl _ _).drew ?_
                  simp only [List.take_succ_cons, List.take_zero, List.drop_succ_cons, List.drop_zero]
                  intro KR hR
                  have HR := Lib.hid hR
                  clear hR
                  have HCC := Lib.hid (show ∀ w'', Below wB.heap.size wB w'' → w''.cell? ⟨g, k, none⟩ = some (.int .i64 x) ∧ w''.cell? ⟨lb, lo + k, none⟩ = some (.int .u8 (y : Nat)) from fun w'' hw => ⟨cell_kept hw x0, cell_kept hw l0⟩)
                  apply wpB_val rfl
                  · (intro w' hw'; go_simp; with_reducible rfl)
                  simp only [Act.put, List.setIfInBounds_toArray, List.set_cons_zero, List.set_cons_succ]
                  apply wpB_val rfl
                  · (intro w' hw'; go_simp; with_reducible rfl)
                  simp only [Act.put, List.setIfInBounds_toArray, List.set_cons_zero, List.set_cons_succ]
                  apply wpB_val rfl
                  · (intro w' hw'; go_simp; with_reducible rfl)
                  simp only [Act.put, List.setIfInBounds_toArray, List.set_cons_zero, List.set_cons_succ]
                  apply wpB_val rfl
                  · (intro w' hw'; go_simp; with_reducible rfl)
                  simp only [Act.put, List.setIfInBounds_toArray, List.set_cons_zero, List.set_cons_succ]
                  apply wpB_val rfl
                  · (intro w' hw'; go_simp; with_reducible rfl)
                  simp only [Act.put, List.setIfInBounds_toArray, List.set_cons_zero, List.set_cons_succ]
                  apply wpB_val rfl
                  · (intro w' hw'; obtain ⟨c0, c1⟩ := HCC.out w' hw'; go_simp; with_reducible rfl)
                  simp only [Act.put, List.setIfInBounds_toArray, List.set_cons_zero, List.set_cons_succ]
                  apply wpB_val rfl
                  · (intro w' hw'; go_simp; with_reducible rfl)
                  simp only [Act.put, List.setIfInBounds_toArray, List.set_cons_zero, List.set_cons_succ]
                  apply wpB_val rfl
                  · (intro w' hw'; go_simp; with_reducible rfl)
                  simp only [Act.put, List.setIfInBounds_toArray, List.set_cons_zero, List.set_cons_succ]
                  apply wpB_val rfl
                  · (intro w' hw'; go_simp; with_reducible rfl)
                  simp only [Act.put, List.setIfInBounds_toArray, List.set_cons_zero, List.set_cons_succ]
                  apply wpB_val rfl
                  · (intro w' hw'; obtain ⟨c0, c1⟩ := HCC.out w' hw'; go_simp; with_reducible rfl)
                  simp only [Act.put, List.setIfInBounds_toArray, List.set_cons_zero, List.set_cons_succ]
                  apply wpB_val rfl
                  · (intro w' hw'; go_simp; with_reducible rfl)
                  simp only [Act.put, List.setIfInBounds_toArray, List.set_cons_zero, List.set_cons_succ]
                  apply wpB_val rfl
                  · (intro w' hw'; go_simp; with_reducible rfl)
                  simp only [Act.put, List.setIfInBounds_toArray, List.set_cons_zero, List.set_cons_succ]
                  apply wpB_val rfl
                  · (intro w' hw'; go_simp; with_reducible rfl)
                  simp only [Act.put, List.setIfInBounds_toArray, List.set_cons_zero, List.set_cons_succ]
                  apply wpB_val rfl
                  · (intro w' hw'; go_simp; with_reducible rfl)
                  simp only [Act.put, List.setIfInBounds_toArray, List.set_cons_zero, List.set_cons_succ]
                  refine wpB_nil (HR.out _ (fun w2 hw2 => ?_))
                  clear HR HCC
                  have HL2 := Lib.hid (HLI.out.later hw2)
                  have f2 := HL2.out.fr k
                  have x2 := HL2.out.cell hlt
                  have HST := Lib.hid (HL2.out.set (k := k) hlt (0) (by omega))
                  clear hw2 x0 f0
                  go_wp2
                  go_round
                  case rel => exact ⟨k + 1, _, hlt, by go_num, HST.out⟩
                  case measure => exact meas_lt hlt
              · have d3 : decide ((k : Int) < (l.length : Int)) = false := decide_eq_false (by omega)
                go_wp2
                go_round
                case rel => exact ⟨k + 1, Lw, hlt, by go_num, HLI.out⟩
                case measure => exact meas_lt hlt
            · obtain rfl : m = k := by omega
              have HBW := Lib.hid (below_step HN.out.bel HLI.out.bel)
              have HJ5 := Lib.hid (HJM.out.later HLI.out.bel)
              have HLV : Hid (ValidP J' Lw) := Lib.hid ⟨HN.out.val.j12, by rw [HLI.out.len]; omega, HLI.out.bd, fun j hj => by rw [HLI.out.len, ← HN.out.len]; exact HN.out.val.j j hj⟩
              have HLN := Lib.hid HLI.out.len
              have HIL := Lib.hid (row_ints HLI.out.row)
              have hj12 := HN.out.val.j12
              have HKE := Lib.hid (keep_any wB J' Lw o1 (some ⟨g, 0, none⟩) c1 c18 HJ5.out HIL.out HLV.out)
              rw [HLN.out] at HKE
              clear HLI HN HJM HNM
              go_wp2_with fail
              refine HKE.out.mono ?_
              rintro _ W7 hko
              obtain ⟨K, CL, kv, cv, vs, rfl, hkf, hkr, hcm⟩ := hko.ex
              have hb7 := hko.bel
              have HB7 := Lib.hid (below_step HBW.out hb7)
              have HJ7 := Lib.hid (HJ5.out.later hb7)
              have HI7 := Lib.hid (HIL.out.later hb7)
              obtain ⟨ok, ck, rfl, hck⟩ := ownsRow_shapeQ hkr
              obtain ⟨oc, cc, rfl, hcc⟩ := ownsRow_shapeQ hcm.row
              have HKI := Lib.hid (row_ints hkr)
              have HCR := Lib.hid hcm.rows
              have HKF := Lib.hid hkf
              have HCH := Lib.hid (chk_ok W7 J' Lw K CL o1 (some ⟨g, 0, none⟩) ok oc c1 c18 ck cc HJ7.out HI7.out HKI.out HCR.out HLV.out hkf hck hcc)
              rw [HLN.out] at HCH
              have hcount : K.length + CL.length = J'.length := by
                have := keeps_count hkf
                rw [ordN_len] at this
                simpa using this
              have HFK := Lib.hid (keeps_feas hkf (KeptOk.zero HLV.out).feas)
              have HKB := Lib.hid (show ∀ x ∈ K, x < J'.length from fun x hx => by
                obtain ⟨M', hM', hs'⟩ := keeps_more hkf
                rw [List.nil_append] at hM'
                rw [hM'] at hx
                exact ordN_lt (hs'.subset hx))
              have HCU := Lib.hid (show ∀ i, i < CL.length → Inc J'.length (getC CL i).2.1 ∧ Inc Lw.length (getC CL i).2.2 ∧ CutL J' Lw (getC CL i).2.1 (getC CL i).2.2 from fun i hi => by
                obtain ⟨D, hD, hc⟩ := keeps_cuts hkf
                rw [List.nil_append] at hD
                subst hD
                exact hc _ (by unfold getC; rw [List.getD_eq_getElem?_getD, List.getElem?_eq_getElem hi]; exact List.getElem_mem _))
              clear hko hkf hkr hcm hb7 HKE HBW HJ5 HIL
              have hkl : K.length ≤ 12 := by omega
              have hcl12 : CL.length ≤ 12 := by omega
              have n1 : (((K.length : Int) + (CL.length : Int)) != (J'.length : Int)) = false := by rw [show (K.length : Int) + (CL.length : Int) = (J'.length : Int) by omega]; simp
              go_wp2_with fail
              refine HCH.out.mono ?_
              rintro _ W8 ⟨rfl, hb8⟩
              have HB8 := Lib.hid (below_step HB7.out hb8)
              have HJ8 := Lib.hid (HJ7.out.later hb8)
              have HI8 := Lib.hid (HI7.out.later hb8)
              have HK8 := Lib.hid (HKI.out.later hb8)
              have HC8 := Lib.hid (HCR.out.later hb8)
              clear hb8 HCH HB7 HJ7 HI7 HKI HCR
              go_upto_region 26 with (fail)
              clear n1 hcount
              go_loopw [134] (fun iv wr => ∃ k : Nat, k ≤ CL.length ∧ iv = .int .i64 k ∧ Below W8.heap.size W8 wr) (fun iv _ => CL.length - (intOf iv).toNat)
              case atStart => exact ⟨0, Nat.zero_le _, rfl, Below.refl _ _⟩
              case round =>
                obtain ⟨k, hk, rfl, hb⟩ := hrel
                obtain ⟨wC, rfl⟩ : ∃ wC : World, wC = wr := ⟨_, rfl⟩
                have HB := Lib.hid hb
                clear hb
                by_cases hlt : k < CL.length
                · obtain ⟨b, off, q1, q2, k1, k2, rfl, c0, c1', hi1, hi2⟩ := (HC8.out.later HB.out) k hlt
                  have hcu := HCU.out k hlt
                  have y1 : (0 : Int) ≤ (k : Int) := by omega
                  have y2 : (k : Int) < (CL.length : Int) := by omega
                  obtain ⟨kl, hkle⟩ : ∃ z, (getC CL k).2.1 = z := ⟨_, rfl⟩
                  obtain ⟨tl, htl⟩ : ∃ z, (getC CL k).2.2 = z := ⟨_, rfl⟩
                  rw [hkle] at c0 hi1 hcu
                  rw [htl] at c1' hi2 hcu
                  clear hkle htl
                  have hba : Below wC.heap.size wC (wC.alloc (.cells #[.slice q1 kl.length k1, .slice q2 tl.length k2] 30)) := below_alloc (Below.refl _ _) _
                  have HBA := Lib.hid (below_step HB.out hba)
                  have HCC := Lib.hid (checkCut_ok (wC.alloc (.cells #[.slice q1 kl.length k1, .slice q2 tl.length k2] 30)) J' Lw kl tl o1 (some ⟨g, 0, none⟩) q1 q2 c1 c18 k1 k2 (HJ8.out.later HBA.out) (HI8.out.later HBA.out) (hi1.later hba) (hi2.later hba) HLV.out hcu.1 hcu.2.1 hcu.2.2)
                  rw [HLN.out] at HCC
                  clear hi1 hi2 hcu hba
                  go_wp2_with fail
                  refine HCC.out.mono ?_
                  rintro _ W9 ⟨rfl, hb9⟩
                  have HB9 := Lib.hid (below_step HBA.out hb9)
                  clear hb9 HCC HBA
                  go_wp2
                  go_round
                  case rel => exact ⟨k + 1, hlt, by go_num, HB9.out⟩
                  case measure => exact meas_lt hlt
                · have HBC := Lib.hid (below_step HB8.out HB.out)
                  have HJC := Lib.hid (HJ8.out.later HB.out)
                  have HIC := Lib.hid (HI8.out.later HB.out)
                  have HKC := Lib.hid (HK8.out.later HB.out)
                  obtain ⟨W9, rfl⟩ : ∃ W9 : World, W9 = wC := ⟨_, rfl⟩
                  obtain rfl : k = CL.length := by omega
                  clear HB HB8 HJ8 HI8 HK8 HC8 HCU hlt hk
                  go_wp2_with fail
                  go_loopw [25, 146] (fun v iv wr => ∃ k : Nat, k ≤ K.length ∧ iv = .int .i64 k ∧ Below W9.heap.size W9 wr ∧ wr.ownsRow W9.heap.size 27 5 v (pickJ J' (K.take k)).length (flatJ (pickJ J' (K.take k)))) (fun _ iv _ => K.length - (intOf iv).toNat)
                  case atStart => exact ⟨0, Nat.zero_le _, rfl, Below.refl _ _, World.ownsRow_nil ..⟩
                  case round =>
                    obtain ⟨k, hk, rfl, hb, hrow⟩ := hrel
                    obtain ⟨wD, rfl⟩ : ∃ wD : World, wD = wr := ⟨_, rfl⟩
                    have HB := Lib.hid hb
                    have HR := Lib.hid hrow
                    clear hb hrow
                    by_cases hlt : k < K.length
                    · obtain ⟨b2, off2, rfl, t0⟩ := (HKC.out.later HB.out) k (by rw [natI_length]; exact hlt)
                      rw [natI_get hlt] at t0
                      have hxn := HKB.out (K.getD k 0) (by rw [List.getD_eq_getElem?_getD, List.getElem?_eq_getElem hlt]; exact List.getElem_mem hlt)
                      obtain ⟨b, off, rfl, e0, e1, e2, e3, e4⟩ := (HJC.out.later HB.out) _ hxn
                      have HPT := Lib.hid (pickJ_take (J := J') hlt)
                      have hpl : (pickJ J' (K.take k)).length ≤ 1000 := by rw [pickJ_len, List.length_take]; omega
                      obtain ⟨x, hx⟩ : ∃ x, K.getD k 0 = x := ⟨_, rfl⟩
                      rw [hx] at t0 hxn e0 e1 e2 e3 e4 HPT
                      obtain ⟨j, hj⟩ : ∃ j, getJ J' x = j := ⟨_, rfl⟩
                      rw [hj] at e0 e1 e2 e3 e4 HPT
                      clear hx hj
                      have y1 : (0 : Int) ≤ (k : Int) := by omega
                      have y2 : (k : Int) < (K.length : Int) := by omega
                      have x1 : (0 : Int) ≤ (x : Int) := by omega
                      have x2 : (x : Int) < (J'.length : Int) := by omega
                      have n1 : decide ((x : Int) < 0) = false := decide_eq_false (by omega)
                      have n2 : decide ((J'.length : Int) ≤ (x : Int)) = false := decide_eq_false (by omega)
                      have hsz := HB.out.size
                      have HN1 := Lib.hid (show (pickJ J' (K.take k)).length + 1 ≤ 1000000000 by omega)
                      go_wp2_with (at_builtin; refine wp_append1O (news := [.int .i64 j.f, .int .i64 j.t, .int .i64 j.e, .int .i64 j.r, .int .i64 j.k]) elemJ HR.out hsz HN1.out (by decide) rfl (oneJ j) rfl _ _ rfl rfl rfl rfl ?_)
                      intro v2 w4 hr2 hgr _
                      have hba : Below wD.heap.size wD (wD.alloc (.cells (jobC j) 27)) := below_alloc (Below.refl _ _) _
                      have HB4 := Lib.hid ((below_step HB.out hba).grown hgr (by rw [World.size_alloc]; omega) (fun b e => (HR.out.lt b e).1))
                      have HR4 : Hid (w4.ownsRow W9.heap.size 27 5 v2 (pickJ J' (K.take (k + 1))).length (flatJ (pickJ J' (K.take (k + 1))))) := Lib.hid (by
                        rw [HPT.out, List.length_append]
                        exact ownsRow_cast hr2 rfl (flatJ_snoc _ _).symm)
                      clear hr2 hgr hba
                      go_wp2
                      go_round
                      case rel => exact ⟨k + 1, hlt, by go_num, HB4.out, HR4.out⟩
                      case measure => exact meas_lt hlt
                    · obtain rfl : k = K.length := by omega
                      rw [List.take_length] at HR
                      obtain ⟨oL, kL, rfl, _⟩ := ownsRow_shapeQ HR.out
                      have HNI : Hid (NowI w wD m (.slice oL (pickJ J' K).length kL) (.slice (some ⟨g, 0, none⟩) m c18) (pickJ J' K) Lw) := Lib.hid ⟨below_step HBC.out HB.out, ⟨_, _, _, _, rfl, rfl, row_jobs HR.out, HIC.out.later HB.out, hc18⟩, HLN.out, pick_valid HLV.out HKB.out hkl, HFK.out⟩
                      clear HR HB HBC HJC HIC HKC hlt hk HKB HLV HKF HFK
                      have hmp : m = 0 → pickJ J' K = [] := fun h => by omega
                      have HMP := Lib.hid hmp
                      clear hmp
                      go_upto_region 39 with (fail)
                      go_loopw [18, 25] (fun v18 v25 wr => ∃ (n : Nat) (A : List Jb) (N2 : List Int), NowI w wr n v25 v18 A N2 ∧ (n = 0 → A = [])) (fun v18 _ _ => lenS v18)
                      case atStart => exact ⟨m, _, Lw, HNI.out, HMP.out⟩
                      case round =>
                        obtain ⟨n, A, N2, hni, hmp⟩ := hrel
                        obtain ⟨wE, rfl⟩ : ∃ wE : World, wE = wr := ⟨_, rfl⟩
                        clear HNI HMP
                        obtain ⟨p1, d1, p2, d2, rfl, rfl, hjm, hnm, hmc⟩ := hni.ex
                        have HNI := Lib.hid hni
                        have HMP := Lib.hid hmp
                        have HJM := Lib.hid hjm
                        have HNM := Lib.hid hnm
                        clear hni hjm hnm hmp
                        by_cases hn0 : 0 < n
                        · have HSL := Lib.hid (slot_any wE A N2 p1 p2 d1 d2 HJM.out HNM.out HNI.out.val HNI.out.fe (by rw [HNI.out.len]; exact hn0) (by rw [HNI.out.len]; exact hmc))
                          rw [HNI.out.len] at HSL
                          have g0 : decide ((0 : Int) < (n : Int)) = true := decide_eq_true (by omega)
                          have g0n : decide (0 < n) = true := decide_eq_true hn0
                          go_wp2_with fail
                          refine HSL.out.mono ?_
                          rintro _ W5 ⟨hb5, J2, r1, r2, k1, k2, rfl, hr1, hr2, hle⟩
                          have HN5 := Lib.hid (HNI.out.next hb5 hr1 hr2 hle)
                          have hTL : (N2.drop 1).length = n - 1 := by rw [List.length_drop, HNI.out.len]
                          have HMP5 : Hid (n - 1 = 0 → J2 = []) := Lib.hid (fun h => by
                            cases J2 with
                            | nil => rfl
                            | cons j J3 =>
                              have h1 := hle.pos j (by simp)
                              have h2 := (HN5.out.val.j j (by simp)).tm
                              omega)
                          obtain ⟨T, hT⟩ : ∃ T, N2.drop 1 = T := ⟨_, rfl⟩
                          rw [hT] at HN5 hTL ⊢
                          clear hT hb5 hr1 hr2 hle HSL
                          have g1 : decide ((n : Int) ≤ (T.length : Int)) = false := decide_eq_false (by omega)
                          rw [hTL] at HN5
                          go_wp2
                          go_round
                          case rel => exact ⟨n - 1, J2, T, HN5.out, HMP5.out⟩
                          case measure => show n - 1 < n; omega
                        · obtain rfl : n = 0 := by omega
                          have hA := HMP.out rfl
                          subst hA
                          go_wp2
                          go_ret
                          exact ⟨rfl, HNI.out.bel⟩
    · obtain ⟨o1, c1, rfl, _⟩ := ownsRow_shapeQ hr1
      obtain ⟨o2, c2, rfl, _⟩ := ownsRow_shapeQ hr2
      have HB3 := Lib.hid (below_step HB2.out hso.bel)
      clear hso HSC HB2 hr1 hr2
      go_wp2
      go_ret
      exact ⟨rfl, below_alloc HB3.out _⟩
end Go.Proofs.Ythgkfdhkmkbioaa
