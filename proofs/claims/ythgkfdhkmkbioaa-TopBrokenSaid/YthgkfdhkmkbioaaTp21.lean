/- TopPromises: what was admitted can always be met. -/
import Derived.Test.YthgkfdhkmkbioaaSm21
import Derived.Test.YthgkfdhkmkbioaaRv21
import Derived.Test.YthgkfdhkmkbioaaRj21
import Derived.Test.YthgkfdhkmkbioaaPm21
namespace Go.Proofs.Ythgkfdhkmkbioaa
open Go.RowKit Go.Shelf
attribute [local go_sem] Oper.semAt_some

/-- A step: a slot passes, or a job is asked for. -/
structure Rsv where
  p : Bool
  m : Nat
  j : Jb
def Rsv.zero : Rsv := ⟨false, 0, Jb.zero⟩
def StepsM (w : World) (o : Option Addr) (l : List Rsv) : Prop := ∀ i, i < l.length → ∃ b off, o = some ⟨b, off, none⟩ ∧ w.cell? ⟨b, off + i * 7, none⟩ = some (.bool (l.getD i Rsv.zero).p) ∧ w.cell? ⟨b, off + i * 7 + 1, none⟩ = some (.int .u8 ((l.getD i Rsv.zero).m : Nat)) ∧ w.cell? ⟨b, off + i * 7 + 2, none⟩ = some (.int .i64 (l.getD i Rsv.zero).j.f) ∧ w.cell? ⟨b, off + i * 7 + 3, none⟩ = some (.int .i64 (l.getD i Rsv.zero).j.t) ∧ w.cell? ⟨b, off + i * 7 + 4, none⟩ = some (.int .i64 (l.getD i Rsv.zero).j.e) ∧ w.cell? ⟨b, off + i * 7 + 5, none⟩ = some (.int .i64 (l.getD i Rsv.zero).j.r) ∧ w.cell? ⟨b, off + i * 7 + 6, none⟩ = some (.int .i64 (l.getD i Rsv.zero).j.k) ∧ (l.getD i Rsv.zero).m < 256
theorem StepsM.later {w w' : World} {o : Option Addr} {l : List Rsv} (h : StepsM w o l) (hb : Below w.heap.size w w') : StepsM w' o l := fun i hi => by
  obtain ⟨b, off, h1, c0, c1, c2, c3, c4, c5, c6, c7⟩ := h i hi
  exact ⟨b, off, h1, cell_kept hb c0, cell_kept hb c1, cell_kept hb c2, cell_kept hb c3, cell_kept hb c4, cell_kept hb c5, cell_kept hb c6, c7⟩
theorem oneInts (l : List Int) : ∀ u ∈ intsV l, u.oneCell' = true := fun u hu => by
  obtain ⟨x, _, rfl⟩ := List.mem_map.1 hu
  rfl
structure ProI (w wr : World) (M : Nat) (v6 v7 : Value) (J : List Jb) (N : List Int) : Prop where
  bel : Below w.heap.size w wr
  jr : wr.ownsRow w.heap.size 27 5 v6 J.length (flatJ J)
  nr : wr.ownsRow w.heap.size 3 1 v7 M (intsV N)
  len : N.length = M
  val : ValidP J N
  fe : Feas J N
theorem valid_nil {S : List Int} (h : validP [] S = true) : ValidP [] S ∧ Feas [] S := by
  have hv := validP_iff.1 h
  exact ⟨hv, feas_nil fun t ht => (hv.s _ (by rw [List.getD_eq_getElem?_getD, List.getElem?_eq_getElem ht]; exact List.getElem_mem ht)).1⟩
set_option maxRecDepth 100000 in
set_option maxHeartbeats 32000000 in
theorem promises_any (w : World) (S : List Int) (l : List Rsv) (os ol : Option Addr) (cs cl : Nat) (hs : Ints w os S) (hl : StepsM w ol l) (hbs : S.length ≤ 9223372036854775807) (hbl : l.length ≤ 9223372036854775807) :
    Calls Try.prog 4 #[.slice os S.length cs, .slice ol l.length cl] w (Ret (.bool true) w) := by
  have HS := Lib.hid hs
  have HL := Lib.hid hl
  clear hs hl
  go_enter Try.func4, Try.ntmps4
  go_wp2_with fail
  refine (r7jobs_any w).mono ?_
  rintro _ W1 ⟨rfl, hb1⟩
  have HB1 := Lib.hid hb1
  clear hb1
  by_cases h0 : S.length = 0
  · have d0 : ((S.length : Int) == 0) = true := beq_iff_eq.2 (by omega)
    have d0b : (S.length == 0) = true := beq_iff_eq.2 h0
    go_wp2
    go_ret
    exact ⟨rfl, HB1.out⟩
  have d0 : ((S.length : Int) == 0) = false := beq_eq_false_iff_ne.2 (by omega)
  have d0b : (S.length == 0) = false := beq_eq_false_iff_ne.2 h0
  by_cases h12 : 12 < S.length
  · have d1 : decide ((12 : Int) < (S.length : Int)) = true := decide_eq_true (by omega)
    have d1b : decide (12 < S.length) = true := decide_eq_true h12
    go_wp2
    go_ret
    exact ⟨rfl, HB1.out⟩
  have d1 : decide ((12 : Int) < (S.length : Int)) = false := decide_eq_false (by omega)
  have d1b : decide (12 < S.length) = false := decide_eq_false h12
  by_cases h40 : 40 < l.length
  · have d2 : decide ((40 : Int) < (l.length : Int)) = true := decide_eq_true (by omega)
    have d2b : decide (40 < l.length) = true := decide_eq_true h40
    go_wp2
    go_ret
    exact ⟨rfl, HB1.out⟩
  have d2 : decide ((40 : Int) < (l.length : Int)) = false := decide_eq_false (by omega)
  have d2b : decide (40 < l.length) = false := decide_eq_false h40
  have HVA := Lib.hid (refValid_any [] S none os 0 cs W1 (fun i hi => absurd hi (Nat.not_lt_zero _)) (HS.out.later HB1.out))
  rw [show ([] : List Jb).length = 0 from rfl] at HVA
  cases hvb : validP [] S with
  | false =>
    rw [hvb] at HVA
    clear hvb
    go_wp2_with fail
    refine HVA.out.mono ?_
    rintro _ W2 ⟨rfl, hb2⟩
    have HB2 := Lib.hid (below_step HB1.out hb2)
    clear hb2 HVA
    go_wp2
    go_ret
    exact ⟨rfl, HB2.out⟩
  | true =>
    rw [hvb] at HVA
    have HV := Lib.hid (valid_nil hvb)
    clear hvb
    obtain ⟨sb, so, rfl, _⟩ := HS.out 0 (by omega)
    have HSR := Lib.hid (ints_src (c := cs) HS.out (fun h => by cases h))
    go_wp2_with fail
    refine HVA.out.mono ?_
    rintro _ W2 ⟨rfl, hb2⟩
    have HB2 := Lib.hid (below_step HB1.out hb2)
    clear hb2 HVA HB1
    obtain ⟨M, hM⟩ : ∃ M, S.length = M := ⟨_, rfl⟩
    have HM := Lib.hid hM
    rw [hM] at h0 h12 d0 d0b d1 d1b HSR ⊢
    obtain ⟨X, hX⟩ : ∃ X, intsV S = X := ⟨_, rfl⟩
    have HX := Lib.hid hX
    rw [hX] at HSR
    have H1C := Lib.hid (show ∀ u ∈ X, u.oneCell' = true from fun u hu => by
      rw [← HX.out] at hu
      obtain ⟨x, _, rfl⟩ := List.mem_map.1 hu
      rfl)
    clear hM hX hbs
    have HR0 := Lib.hid (show Row W2 (W2.alloc (.cells #[] 3)) 3 1 (.slice (some ⟨W2.heap.size, 0, none⟩) 0 0) 0 [] from Row.lit (Below.refl _ _) #[] 0 (by decide) rfl)
    have HCC := Lib.hid (show ∀ (j : Nat) (u : Value), X[j]? = some u → (W2.alloc (.cells #[] 3)).cell? ((⟨sb, so, none⟩ : Addr).add j) = some u from fun j u hj => by
      rw [Addr.add_lit]
      exact cell_kept (below_alloc HB2.out (.cells #[] 3)) (HSR.out.2.2 sb so j u rfl hj))
    have HLL := Lib.hid HSR.out.1
    go_wp2_with (at_builtin; refine wp_appendN elemI HR0.out (k := M) (c := cs) (news := X) (by omega) (by decide) HLL.out H1C.out HCC.out rfl (.tmp 39) (.tmp 40) rfl rfl rfl ?_)
    intro v' w6 hrow
    have HPI : Hid (ProI w w6 M (.slice none 0 0) v' [] S) := Lib.hid ⟨below_step HB2.out hrow.below, World.ownsRow_nil .., by rw [HX.out]; exact hrow.own.mono HB2.out.size, HM.out, HV.out.1, HV.out.2⟩
    clear hrow HCC HLL HR0 H1C HSR HX HB2 d0 d0b d1 d1b
    go_wp2_with fail
    go_loopw [6, 7, 44] (fun v6 v7 iv wr => ∃ (k : Nat) (J : List Jb) (N : List Int), k ≤ l.length ∧ iv = .int .i64 k ∧ ProI w wr M v6 v7 J N) (fun _ _ iv _ => l.length - (intOf iv).toNat)
    case atStart => exact ⟨0, [], S, Nat.zero_le _, rfl, HPI.out⟩
    case round =>
      obtain ⟨k, J, N, hk, rfl, hpi⟩ := hrel
      obtain ⟨wA, rfl⟩ : ∃ wA : World, wA = wr := ⟨_, rfl⟩
      clear HPI
      have HPI := Lib.hid hpi
      clear hpi
      by_cases hlt : k < l.length
      · obtain ⟨b, off, rfl, c0, c1, c2, c3, c4, c5, c6, c7⟩ := (HL.out.later HPI.out.bel) k hlt
        obtain ⟨x, hx⟩ : ∃ x, l.getD k Rsv.zero = x := ⟨_, rfl⟩
        rw [hx] at c0 c1 c2 c3 c4 c5 c6 c7
        clear hx
        obtain ⟨o6, k6, rfl, _⟩ := ownsRow_shapeQ HPI.out.jr
        obtain ⟨o7, k7, rfl, hk7⟩ := ownsRow_shapeQ HPI.out.nr
        have hJ12 := HPI.out.val.j12
        obtain ⟨xp, xm, xj⟩ := x
        dsimp only at c0 c1 c2 c3 c4 c5 c6 c7
        have y1 : (0 : Int) ≤ (k : Int) := by omega
        have y2 : (k : Int) < (l.length : Int) := by omega
        have hb2 : Below wA.heap.size wA (wA.alloc (.cells #[.bool xp, .int .u8 (xm : Nat), .int .i64 xj.f, .int .i64 xj.t, .int .i64 xj.e, .int .i64 xj.r, .int .i64 xj.k] 38)) := below_alloc (Below.refl _ _) _
        have hbx : Blk (wA.alloc (.cells #[.bool xp, .int .u8 (xm : Nat), .int .i64 xj.f, .int .i64 xj.t, .int .i64 xj.e, .int .i64 xj.r, .int .i64 xj.k] 38)) wA.heap.size 38 #[.bool xp, .int .u8 (xm : Nat), .int .i64 xj.f, .int .i64 xj.t, .int .i64 xj.e, .int .i64 xj.r, .int .i64 xj.k] := Blk.new ..
        have HSZ := Lib.hid HPI.out.bel.size
        cases xp with
        | true =>
          obtain ⟨WX, hWX⟩ : ∃ W, W = wA.alloc (.cells #[.bool true, .int .u8 (xm : Nat), .int .i64 xj.f, .int .i64 xj.t, .int .i64 xj.e, .int .i64 xj.r, .int .i64 xj.k] 38) := ⟨_, rfl⟩
          go_upto_region 9 with (fail)
          rw [← hWX] at hb2 hbx ⊢
          clear hWX c0 c1 c2 c3 c4 c5 c6
          obtain ⟨XB, hXB⟩ : ∃ B, wA.heap.size = B := ⟨_, rfl⟩
          rw [hXB] at hbx ⊢
          clear hXB
          have HBX := Lib.hid hbx
          have hjm := (row_jobs HPI.out.jr).later hb2
          have hnm := (row_ints (l := N) (n := M) (HPI.out.nr)).later hb2
          have HSL := Lib.hid (slot_any WX J N o6 o7 k6 k7 hjm hnm HPI.out.val HPI.out.fe (by rw [HPI.out.len]; omega) (by rw [HPI.out.len]; exact hk7))
          rw [HPI.out.len] at HSL
          have HBX2 := Lib.hid (below_step HPI.out.bel hb2)
          have x0 : WX.cell? ⟨XB, 0, none⟩ = some (.bool true) := hbx.cell 0
          clear hb2 hbx hjm hnm
          go_wp2_with fail
          refine HSL.out.mono ?_
          rintro _ W3 ⟨hb3, J', o1, o2, c1, c2, rfl, hr1, hr2, hle⟩
          have HB3 := Lib.hid (below_step HBX2.out hb3)
          have HR1 := Lib.hid (hr1.mono HBX2.out.size)
          have HR2 := Lib.hid (hr2.mono HBX2.out.size)
          have HLE := Lib.hid hle
          have HBX3 := Lib.hid (HBX.out.later hb3)
          clear hb3 hr1 hr2 hle HSL HBX HBX2 x0
          obtain ⟨T, hT⟩ : ∃ T, N.drop 1 = T := ⟨_, rfl⟩
          have HT := Lib.hid hT
          rw [hT] at HR2
          rw [hT]
          clear hT
          go_upto_region 13 with (fail)
          have HN2 := Lib.hid (ownsRow_nil HR2.out)
          have HIT := Lib.hid (row_ints HR2.out)
          have HTL := Lib.hid (show T.length + 1 = M by rw [← HT.out, List.length_drop, HPI.out.len]; omega)
          have HS0 := Lib.hid (show W3.heap.size ≤ W3.heap.size from Nat.le_refl _)
          have HNWa := Lib.hid (show 0 + T.length ≤ 1000000 by have := HTL.out; omega)
          have HNWb := Lib.hid (show T.length + 1 ≤ 1000000 by have := HTL.out; omega)
          have e1 : IntKind.i64.wrap (xm : Int) = xm := IntWalk.i64_in _ (by omega)
          refine wp_region_maskF [1, 3, 7, 8, 9, 10] [true, false, true, false, true, true, true, false, false, false, false] (fun w'' => Below W3.heap.size W3 w'') mixed (by kernel_rfl) ?_
          intro KR hR
          have HR := Lib.hid hR
          clear hR
          simp only [marked]
          apply wpM_val rfl
          · (intro w' hw'; go_simp; with_reducible rfl)
          simp only [Act.put, List.setIfInBounds_toArray, List.set_cons_zero, List.set_cons_succ]
          apply wpM_val rfl
          · (intro w' hw'; go_simp; with_reducible rfl)
          simp only [Act.put, List.setIfInBounds_toArray, List.set_cons_zero, List.set_cons_succ]
          apply wpM_val rfl
          · (intro w' hw'; go_simp; with_reducible rfl)
          simp only [Act.put, List.setIfInBounds_toArray, List.set_cons_zero, List.set_cons_succ]
          apply wpM_val rfl
          · (intro w' hw'; have c0 := (HBX3.out.later hw').cell 1; clear hw'; simp at c0; go_simp; with_reducible rfl)
          simp only [Act.put, List.setIfInBounds_toArray, List.set_cons_zero, List.set_cons_succ]
          apply wpM_val rfl
          · (intro w' hw'; go_simp; with_reducible rfl)
          simp only [Act.put, List.setIfInBounds_toArray, List.set_cons_zero, List.set_cons_succ]
          refine wpM_nil (HR.out _ ?_)
          clear HR
          refine wpF_inv (fun rest V wr => ∃ v0 x y u f g, V = ({ tmps := #[.slice (some ⟨sb, so, none⟩) M cs, .slice (some ⟨b, off, none⟩) l.length cl, undef, undef, u4, .bool true, g, f, undef, .pointer (some ⟨XB, 0, none⟩), .slice o1 J'.length c1, .slice o2 T.length c2, .bool true, u13, u14, u15, u16, u17, u18, .bool true, .slice (some ⟨sb, so, none⟩) M cs, .int .i64 M, .bool false, .bool false, .slice (some ⟨sb, so, none⟩) M cs, .int .i64 M, .bool false, .bool false, .bool false, .slice (some ⟨b, off, none⟩) l.length cl, .int .i64 l.length, .bool false, .bool false, .bool false, .slice (some ⟨sb, so, none⟩) M cs, .bool true, .bool false, .bool false, undef, .slice (some ⟨W2.heap.size, 0, none⟩) 0 0, .slice (some ⟨sb, so, none⟩) M cs, v', .slice (some ⟨b, off, none⟩) l.length cl, .int .i64 l.length, .int .i64 k, .bool true, .pointer (some ⟨b, off + k * 7, none⟩), .agg #[.bool true, .int .u8 (xm : Nat), .int .i64 xj.f, .int .i64 xj.t, .int .i64 xj.e, .int .i64 xj.r, .int .i64 xj.k], .pointer (some ⟨XB, 0, none⟩), .bool true, .tuple #[.slice o1 J'.length c1, .slice o2 T.length c2, .bool true], .slice o6 J.length k6, .slice o7 M k7, .tuple #[.slice o1 J'.length c1, .slice o2 T.length c2, .bool true], .slice o1 J'.length c1, .slice o2 T.length c2, .bool true, .bool true, .bool false, .slice o1 J'.length c1, v0, .slice o2 T.length c2, x, .pointer (some ⟨XB, 1, none⟩), .int .u8 (xm : Nat), .int .i64 (xm : Nat), y, u, u68, u69, u70, u71, u72, u73, u74, u75, u76, u77, u78, u79, u80, u81, u82, u83, u84, u85, u86, u87, u88, u89, u90, u91, u92, u93, u94, u95, u96, u97, u98, u99, u100, u101, u102, u103, u104, u105, u106, u107, u108, u109, u110, u111, undef], defers := [] } : Act) ∧ AppZ W3.heap.size W3 wr 3 1 rest 1 3 7 8 10 (0 + T.length) ([] ++ intsV T) #[.int .i64 (xm : Nat)] v0 x y u f (0 + T.length + 1) ([] ++ intsV T ++ (intsV [(xm : Int)])) ∧ (9 ∉ rest → g = (.slice o1 J'.length c1))) [1, 3, 7, 8, 9, 10] ?actJ ?actS ?actF _ _ _ _ rfl (by decide) (fun _ h => h) ⟨_, _, _, _, _, _, rfl, .inl ⟨by decide, by decide, (Below.refl _ _).drew, Nat.le_refl _, fun h => absurd (by decide) h⟩, fun h => absurd (by decide) h⟩
          case actJ =>
            rintro rest V wr ⟨v0, x, y, u, f, g, rfl, hI, hE⟩
            exact hI.bel
          case actS =>
            rintro rest V wr c hnd hC ⟨v0, x, y, u, f, g, rfl, hI, hE⟩ hc hf
            have hcc := hC c hc
            simp only [List.mem_cons, List.not_mem_nil, or_false] at hcc
            rcases hcc with rfl | rfl | rfl | rfl | rfl | rfl
            · have hd0 := hnd
              have hZ := hI
              refine ⟨_, rfl, rfl, stepC_val (v := .slice (some ⟨wr.heap.size, 0, none⟩) 0 0) (w' := wr.alloc (.cells #[] 3)) ?_ ?_⟩
              · clear hI hZ; go_simp
              · simp only [Act.put, List.setIfInBounds_toArray]
                exact ⟨_, _, _, _, _, _, rfl, hZ.lit hnd hc (by decide) HS0.out, fun hm => hE (not_erase hm (by decide))⟩
            · have hz : 1 ∉ rest := freeC_done hf (by kernel_rfl)
              have hZ := hI
              obtain ⟨hv, hA⟩ := hZ.in' hz
              obtain ⟨hr0, hs0⟩ := hA.row0 hc
              obtain ⟨x', w', hr, ho, hg, hat⟩ := run_appV elemI (by decide) hr0 (Nat.le_trans HS0.out hs0) (ints_src (HIT.out.later hI.bel) HN2.out.1) HN2.out.2 (oneInts T) HNWa.out 23
              refine ⟨_, rfl, rfl, stepC_val (v := x') (w' := w') ?_ ?_⟩
              · exact exec_append _ _ rfl hr
              · simp only [Act.put, List.setIfInBounds_toArray]
                exact ⟨_, _, _, _, _, _, rfl, AppZ.out' hz hv (hA.first hnd hc (by decide) HS0.out ho hg hat), fun hm => hE (not_erase hm (by decide))⟩
            · have hd0 := hnd
              have hZ := hI
              refine ⟨_, rfl, rfl, stepC_val (v := .slice (some ⟨wr.heap.size, 0, none⟩) 1 1) (w' := wr.alloc (.cells #[.int .i64 (xm : Nat)] 3)) ?_ ?_⟩
              · clear hI hZ; go_simp
              · simp only [Act.put, List.setIfInBounds_toArray]
                exact ⟨_, _, _, _, _, _, rfl, hZ.second hnd hc (by decide) HS0.out, fun hm => hE (not_erase hm (by decide))⟩
            · have h2 : 3 ∉ rest := freeC_done hf (by kernel_rfl)
              have h4 : 7 ∉ rest := freeC_done hf (by kernel_rfl)
              have hZ := hI
              have hz : 1 ∉ rest := fun hm => by
                rcases hZ with ⟨_, h2', _⟩ | ⟨h2', _⟩
                · exact h2 h2'.1
                · exact h2' hm
              obtain ⟨hv, hA⟩ := hZ.in' hz
              obtain ⟨hs0, hr0, X, rfl, hX⟩ := hA.parts hc h2 h4
              obtain ⟨z', w', hr, ho, hg, hat⟩ := run_appV elemI (by decide) hr0 (Nat.le_trans HS0.out hs0) (one_src (cs := (intsV [(xm : Int)])) hX rfl) (fun a ha => by cases ha; rfl) (oneInts [(xm : Int)]) (by rw [Nat.zero_add]; exact HNWb.out) 23
              refine ⟨_, rfl, rfl, stepC_val (v := z') (w' := w') ?_ ?_⟩
              · exact exec_append _ _ rfl hr
              · simp only [Act.put, List.setIfInBounds_toArray]
                exact ⟨_, _, _, _, _, _, rfl, AppZ.out' hz hv (hA.third hnd hc h2 h4 (by decide) HS0.out ho hg), fun hm => hE (not_erase hm (by decide))⟩
            · have hd0 := hnd
              refine ⟨_, rfl, rfl, stepC_val (v := (.slice o1 J'.length c1)) (w' := wr) ?_ ?_⟩
              · clear hI; go_simp
              · simp only [Act.put, List.setIfInBounds_toArray]
                exact ⟨_, _, _, _, _, _, rfl, hI.erase (by decide) (by decide) (by decide) (by decide) (by decide), fun _ => rfl⟩
            · have h5 : 8 ∉ rest := freeC_done hf (by kernel_rfl)
              have hz := (hI.done h5).1
              obtain ⟨hv, hA⟩ := hI.in' hz
              refine ⟨_, rfl, rfl, stepC_val (v := u) (w' := wr) ?_ ?_⟩
              · clear hI hA; go_simp
              · simp only [Act.put, List.setIfInBounds_toArray]
                exact ⟨_, _, _, _, _, _, rfl, AppZ.out' hz hv (hA.fourth h5), fun hm => hE (not_erase hm (by decide))⟩
          case actF =>
          rintro V W4 ⟨v0, x, y, u, f, g, rfl, hI, hE⟩
          obtain ⟨rfl, hb4, hrow4⟩ := hI.fin
          obtain rfl := hE (by simp)
          have HVF := HLE.out.val [(xm : Int)] (fun x hx => by rw [List.mem_singleton.1 hx]; omega) (by have := HPI.out.len; simp; omega)
          rw [HT.out] at HVF
          have HP4 : Hid (ProI w W4 M (.slice o1 J'.length c1) f J' (T ++ [(xm : Int)])) := Lib.hid ⟨below_step HB3.out hb4, ownsRow_later HR1.out hb4, ownsRow_cast (hrow4.mono HB3.out.size) (by have := HTL.out; omega) (by simp [intsV]), by have := HTL.out; simp; omega, HVF.1, HVF.2⟩
          clear hb4 hrow4 hI hE HVF HNWa HNWb HS0 HN2
          go_wp2
          go_round
          case rel => exact ⟨k + 1, J', T ++ [(xm : Int)], hlt, by go_num, HP4.out⟩
          case measure => exact meas_lt hlt
        | false =>
          obtain ⟨WX, hWX⟩ : ∃ W, W = wA.alloc (.cells #[.bool false, .int .u8 (xm : Nat), .int .i64 xj.f, .int .i64 xj.t, .int .i64 xj.e, .int .i64 xj.r, .int .i64 xj.k] 38) := ⟨_, rfl⟩
          go_upto_region 9 with (fail)
          rw [← hWX] at hb2 hbx ⊢
          clear hWX c0 c1 c2 c3 c4 c5 c6
          obtain ⟨XB, hXB⟩ : ∃ B, wA.heap.size = B := ⟨_, rfl⟩
          rw [hXB] at hbx ⊢
          clear hXB
          have HBX := Lib.hid hbx
          have hjm := (row_jobs HPI.out.jr).later hb2
          have hnm := (row_ints (l := N) (n := M) (HPI.out.nr)).later hb2
          have HAD := Lib.hid (admit_any WX J N xj o6 o7 k6 k7 hjm hnm HPI.out.val HPI.out.fe (ownsRow_nil HPI.out.jr).1 (ownsRow_nil HPI.out.jr).2)
          rw [HPI.out.len] at HAD
          have HBX2 := Lib.hid (below_step HPI.out.bel hb2)
          have HJX := Lib.hid (ownsRow_later HPI.out.jr hb2)
          have HNX := Lib.hid (ownsRow_later HPI.out.nr hb2)
          have x0 : WX.cell? ⟨XB, 0, none⟩ = some (.bool false) := hbx.cell 0
          have x2 : WX.cell? ⟨XB, 2, none⟩ = some (.int .i64 xj.f) := hbx.cell 2
          have x3 : WX.cell? ⟨XB, 3, none⟩ = some (.int .i64 xj.t) := hbx.cell 3
          have x4 : WX.cell? ⟨XB, 4, none⟩ = some (.int .i64 xj.e) := hbx.cell 4
          have x5 : WX.cell? ⟨XB, 5, none⟩ = some (.int .i64 xj.r) := hbx.cell 5
          have x6 : WX.cell? ⟨XB, 6, none⟩ = some (.int .i64 xj.k) := hbx.cell 6
          clear hb2 hbx hjm hnm
          go_wp2_with fail
          refine HAD.out.mono ?_
          rintro _ W5 hao
          have HB5 := Lib.hid (below_step HBX2.out hao.bel)
          have HJ5 := Lib.hid (ownsRow_later HJX.out hao.bel)
          have HN5 := Lib.hid (ownsRow_later HNX.out hao.bel)
          have HBX5 := Lib.hid (HBX.out.later hao.bel)
          clear x0 x2 x3 x4 x5 x6 HAD HBX2 HJX HNX HBX
          rcases hao.ex with ⟨c, hc12, _, rfl⟩ | ⟨hvn, hso⟩
          · clear hao
            go_upto_region 15 with (fail)
            obtain ⟨W6, hW6⟩ : ∃ W, W = W5.alloc (.cells #[.slice none 0 0, .slice none 0 0] 30) := ⟨_, rfl⟩
            have hb6 : Below W5.heap.size W5 W6 := by rw [hW6]; exact below_alloc (Below.refl _ _) _
            have HK6 := Lib.hid (show Blk W6 W5.heap.size 30 #[.slice none 0 0, .slice none 0 0] by rw [hW6]; exact Blk.new ..)
            have HB6 := Lib.hid (below_step HB5.out hb6)
            have HJ6 := Lib.hid (ownsRow_later HJ5.out hb6)
            have HN6 := Lib.hid (ownsRow_later HN5.out hb6)
            have HBX6 := Lib.hid (HBX5.out.later hb6)
            rw [← hW6]
            obtain ⟨C7, hC7⟩ : ∃ x, W5.heap.size = x := ⟨_, rfl⟩
            rw [hC7] at HK6 ⊢
            clear hC7 hW6
            clear hb6 HB5 HJ5 HN5 HBX5 HBX6 HK6
            rcases hc12 with rfl | rfl
            · skip
              have HSC := Lib.hid (sched_any W6 J N o6 o7 k6 k7 (row_jobs HJ6.out) (row_ints (l := N) (n := M) HN6.out) HPI.out.val )
              rw [HPI.out.len] at HSC
              go_wp2_with fail
              refine HSC.out.mono ?_
              rintro _ W8 hso
              obtain ⟨hb8, AL, OB, L, P, rfl, _⟩ := hso.good HPI.out.fe
              have hb9 : Below W6.heap.size W6 (W8.alloc (.cells #[.slice none 0 0, .slice none 0 0] 30)) := below_alloc hb8 _
              have HP8 : Hid (ProI w (W8.alloc (.cells #[.slice none 0 0, .slice none 0 0] 30)) M (.slice o6 J.length k6) (.slice o7 M k7) J N) := Lib.hid ⟨below_step HB6.out hb9, ownsRow_later HJ6.out hb9, ownsRow_later HN6.out hb9, HPI.out.len, HPI.out.val, HPI.out.fe⟩
              clear hb8 hb9 hso HSC
              go_wp2
              go_round
              case rel => exact ⟨k + 1, J, N, hlt, by go_num, HP8.out⟩
              case measure => exact meas_lt hlt
            · skip
              have HSC := Lib.hid (sched_any W6 J N o6 o7 k6 k7 (row_jobs HJ6.out) (row_ints (l := N) (n := M) HN6.out) HPI.out.val )
              rw [HPI.out.len] at HSC
              go_wp2_with fail
              refine HSC.out.mono ?_
              rintro _ W8 hso
              obtain ⟨hb8, AL, OB, L, P, rfl, _⟩ := hso.good HPI.out.fe
              have hb9 : Below W6.heap.size W6 (W8.alloc (.cells #[.slice none 0 0, .slice none 0 0] 30)) := below_alloc hb8 _
              have HP8 : Hid (ProI w (W8.alloc (.cells #[.slice none 0 0, .slice none 0 0] 30)) M (.slice o6 J.length k6) (.slice o7 M k7) J N) := Lib.hid ⟨below_step HB6.out hb9, ownsRow_later HJ6.out hb9, ownsRow_later HN6.out hb9, HPI.out.len, HPI.out.val, HPI.out.fe⟩
              clear hb8 hb9 hso HSC
              go_wp2
              go_round
              case rel => exact ⟨k + 1, J, N, hlt, by go_num, HP8.out⟩
              case measure => exact meas_lt hlt
          · have HVN := Lib.hid hvn
            rcases hso.ex with ⟨AL2, OB2, L2, P2, rfl, _, _, _, _, _, hP2⟩ | ⟨w1, w2, C, T, rfl, hr1, hr2, hcut⟩
            · have HFN : Hid (Feas (J ++ [xj]) N) := Lib.hid ⟨P2, hP2⟩
              clear hao hso hP2 hvn
              go_upto_region 15 with (fail)
              obtain ⟨W6, hW6⟩ : ∃ W, W = W5.alloc (.cells #[.slice none 0 0, .slice none 0 0] 30) := ⟨_, rfl⟩
              have hb6 : Below W5.heap.size W5 W6 := by rw [hW6]; exact below_alloc (Below.refl _ _) _
              have HK6 := Lib.hid (show Blk W6 W5.heap.size 30 #[.slice none 0 0, .slice none 0 0] by rw [hW6]; exact Blk.new ..)
              have HB6 := Lib.hid (below_step HB5.out hb6)
              have HJ6 := Lib.hid (ownsRow_later HJ5.out hb6)
              have HN6 := Lib.hid (ownsRow_later HN5.out hb6)
              have HBX6 := Lib.hid (HBX5.out.later hb6)
              rw [← hW6]
              obtain ⟨C7, hC7⟩ : ∃ x, W5.heap.size = x := ⟨_, rfl⟩
              rw [hC7] at HK6 ⊢
              clear hC7 hW6
              clear hb6 HB5 HJ5 HN5 HBX5 HK6
              go_upto_region 17 with (fail)
              have HJN := Lib.hid (ownsRow_nil HJ6.out)
              have HS0 := Lib.hid (show W6.heap.size ≤ W6.heap.size from Nat.le_refl _)
              have HNWa := Lib.hid (show 0 + J.length ≤ 1000000 by omega)
              have HNWb := Lib.hid (show J.length + 1 ≤ 1000000 by omega)
              refine wp_region_maskF [0, 1, 2, 5, 6, 7] [false, false, false, true, true, false, false, false] (fun w'' => Below W6.heap.size W6 w'') mixed (by kernel_rfl) ?_
              intro KR hR
              have HR := Lib.hid hR
              clear hR
              simp only [marked]
              apply wpM_val rfl
              · (intro w' hw'; go_simp; with_reducible rfl)
              simp only [Act.put, List.setIfInBounds_toArray, List.set_cons_zero, List.set_cons_succ]
              apply wpM_val rfl
              · (intro w' hw'; have hx := HBX6.out.later hw'; have c2 := hx.cell 2; have c3 := hx.cell 3; have c4 := hx.cell 4; have c5 := hx.cell 5; have c6 := hx.cell 6; clear hx hw'; simp at c2 c3 c4 c5 c6; go_simp; with_reducible rfl)
              simp only [Act.put, List.setIfInBounds_toArray, List.set_cons_zero, List.set_cons_succ]
              refine wpM_nil (HR.out _ ?_)
              clear HR
              refine wpF_inv (fun rest V wr => ∃ v0 x y u f g, V = ({ tmps := #[.slice (some ⟨sb, so, none⟩) M cs, .slice (some ⟨b, off, none⟩) l.length cl, undef, undef, u4, .bool true, f, .slice o7 M k7, undef, .pointer (some ⟨XB, 0, none⟩), u10, u11, u12, .slice (some ⟨OB2, 0, none⟩) (J.length + 1) (J.length + 1), .pointer (some ⟨C7, 0, none⟩), .int .i64 0, u16, u17, u18, .bool true, .slice (some ⟨sb, so, none⟩) M cs, .int .i64 M, .bool false, .bool false, .slice (some ⟨sb, so, none⟩) M cs, .int .i64 M, .bool false, .bool false, .bool false, .slice (some ⟨b, off, none⟩) l.length cl, .int .i64 l.length, .bool false, .bool false, .bool false, .slice (some ⟨sb, so, none⟩) M cs, .bool true, .bool false, .bool false, undef, .slice (some ⟨W2.heap.size, 0, none⟩) 0 0, .slice (some ⟨sb, so, none⟩) M cs, v', .slice (some ⟨b, off, none⟩) l.length cl, .int .i64 l.length, .int .i64 k, .bool true, .pointer (some ⟨b, off + k * 7, none⟩), .agg #[.bool false, .int .u8 (xm : Nat), .int .i64 xj.f, .int .i64 xj.t, .int .i64 xj.e, .int .i64 xj.r, .int .i64 xj.k], .pointer (some ⟨XB, 0, none⟩), .bool false, u50, u51, u52, u53, u54, u55, u56, u57, u58, u59, u60, u61, u62, u63, u64, u65, u66, u67, .tuple #[.slice (some ⟨OB2, 0, none⟩) (J.length + 1) (J.length + 1), .agg #[.slice none 0 0, .slice none 0 0], .int .i64 0], .slice o6 J.length k6, .slice o7 M k7, .pointer (some ⟨XB, 2, none⟩), .agg #[.int .i64 xj.f, .int .i64 xj.t, .int .i64 xj.e, .int .i64 xj.r, .int .i64 xj.k], .tuple #[.slice (some ⟨OB2, 0, none⟩) (J.length + 1) (J.length + 1), .agg #[.slice none 0 0, .slice none 0 0], .int .i64 0], .slice (some ⟨OB2, 0, none⟩) (J.length + 1) (J.length + 1), .agg #[.slice none 0 0, .slice none 0 0], .int .i64 0, .int .i64 0, .bool true, .bool true, v0, g, x, .pointer (some ⟨XB, 2, none⟩), .agg #[.int .i64 xj.f, .int .i64 xj.t, .int .i64 xj.e, .int .i64 xj.r, .int .i64 xj.k], y, u, u87, u88, u89, u90, u91, u92, u93, u94, u95, u96, u97, u98, u99, u100, u101, u102, u103, u104, u105, u106, u107, u108, u109, u110, u111, undef], defers := [] } : Act) ∧ AppZ W6.heap.size W6 wr 27 5 rest 0 2 5 6 7 (0 + J.length) ([] ++ flatJ J) (jobC xj) v0 x y u f (0 + J.length + 1) ([] ++ flatJ J ++ (flatJ [xj])) ∧ ((1 ∉ rest → g = (.slice o6 J.length k6)) ∧ (1 ∈ rest → f = (.slice o6 J.length k6)))) [0, 1, 2, 5, 6, 7] ?actJ2 ?actS2 ?actF2 _ _ _ _ rfl (by decide) (fun _ h => h) ⟨_, _, _, _, _, _, rfl, .inl ⟨by decide, by decide, (Below.refl _ _).drew, Nat.le_refl _, fun h => absurd (by decide) h⟩, ⟨fun h => absurd (by decide) h, fun _ => rfl⟩⟩
              case actJ2 =>
                rintro rest V wr ⟨v0, x, y, u, f, g, rfl, hI, hE⟩
                exact hI.bel
              case actS2 =>
                rintro rest V wr c hnd hC ⟨v0, x, y, u, f, g, rfl, hI, hE⟩ hc hf
                have hcc := hC c hc
                simp only [List.mem_cons, List.not_mem_nil, or_false] at hcc
                rcases hcc with rfl | rfl | rfl | rfl | rfl | rfl
                · have hd0 := hnd
                  have hZ := hI
                  refine ⟨_, rfl, rfl, stepC_val (v := .slice (some ⟨wr.heap.size, 0, none⟩) 0 0) (w' := wr.alloc (.cells #[] 27)) ?_ ?_⟩
                  · clear hI hZ; go_simp
                  · simp only [Act.put, List.setIfInBounds_toArray]
                    exact ⟨_, _, _, _, _, _, rfl, hZ.lit hnd hc (by decide) HS0.out, ⟨fun hm => hE.1 (not_erase hm (by decide)), fun hm => hE.2 (in_erase hm)⟩⟩
                · have hd0 := hnd
                  obtain rfl := hE.2 hc
                  refine ⟨_, rfl, rfl, stepC_val (v := (.slice o6 J.length k6)) (w' := wr) ?_ ?_⟩
                  · clear hI; go_simp
                  · simp only [Act.put, List.setIfInBounds_toArray]
                    exact ⟨_, _, _, _, _, _, rfl, hI.erase (by decide) (by decide) (by decide) (by decide) (by decide), ⟨fun _ => rfl, fun hm => absurd hm hnd.not_mem_erase⟩⟩
                · have hz : 0 ∉ rest := freeC_done hf (by kernel_rfl)
                  have hZ := hI
                  have h1x : 1 ∉ rest := freeC_done hf (by kernel_rfl)
                  obtain rfl := hE.1 h1x
                  obtain ⟨hv, hA⟩ := hZ.in' hz
                  obtain ⟨hr0, hs0⟩ := hA.row0 hc
                  obtain ⟨x', w', hr, ho, hg, hat⟩ := run_appV elemJ (by decide) hr0 (Nat.le_trans HS0.out hs0) (jobs_src ((row_jobs HJ6.out).later hI.bel) HJN.out.1) HJN.out.2 (flatJ_one J) HNWa.out 22
                  refine ⟨_, rfl, rfl, stepC_val (v := x') (w' := w') ?_ ?_⟩
                  · exact exec_append _ _ rfl hr
                  · simp only [Act.put, List.setIfInBounds_toArray]
                    exact ⟨_, _, _, _, _, _, rfl, AppZ.out' hz hv (hA.first hnd hc (by decide) HS0.out ho hg hat), ⟨fun hm => hE.1 (not_erase hm (by decide)), fun hm => hE.2 (in_erase hm)⟩⟩
                · have hd0 := hnd
                  have hZ := hI
                  refine ⟨_, rfl, rfl, stepC_val (v := .slice (some ⟨wr.heap.size, 0, none⟩) 1 1) (w' := wr.alloc (.cells (jobC xj) 27)) ?_ ?_⟩
                  · clear hI hZ; go_simp
                  · simp only [Act.put, List.setIfInBounds_toArray]
                    exact ⟨_, _, _, _, _, _, rfl, hZ.second hnd hc (by decide) HS0.out, ⟨fun hm => hE.1 (not_erase hm (by decide)), fun hm => hE.2 (in_erase hm)⟩⟩
                · have h2 : 2 ∉ rest := freeC_done hf (by kernel_rfl)
                  have h4 : 5 ∉ rest := freeC_done hf (by kernel_rfl)
                  have hZ := hI
                  have hz : 0 ∉ rest := fun hm => by
                    rcases hZ with ⟨_, h2', _⟩ | ⟨h2', _⟩
                    · exact h2 h2'.1
                    · exact h2' hm
                  obtain ⟨hv, hA⟩ := hZ.in' hz
                  obtain ⟨hs0, hr0, X, rfl, hX⟩ := hA.parts hc h2 h4
                  obtain ⟨z', w', hr, ho, hg, hat⟩ := run_appV elemJ (by decide) hr0 (Nat.le_trans HS0.out hs0) (one_src (cs := (flatJ [xj])) hX rfl) (fun a ha => by cases ha; rfl) (flatJ_one [xj]) (by rw [Nat.zero_add]; exact HNWb.out) 22
                  refine ⟨_, rfl, rfl, stepC_val (v := z') (w' := w') ?_ ?_⟩
                  · exact exec_append _ _ rfl hr
                  · simp only [Act.put, List.setIfInBounds_toArray]
                    exact ⟨_, _, _, _, _, _, rfl, AppZ.out' hz hv (hA.third hnd hc h2 h4 (by decide) HS0.out ho hg), ⟨fun hm => hE.1 (not_erase hm (by decide)), fun hm => hE.2 (in_erase hm)⟩⟩
                · have h5 : 6 ∉ rest := freeC_done hf (by kernel_rfl)
                  have hz := (hI.done h5).1
                  obtain ⟨hv, hA⟩ := hI.in' hz
                  refine ⟨_, rfl, rfl, stepC_val (v := u) (w' := wr) ?_ ?_⟩
                  · clear hI hA; go_simp
                  · simp only [Act.put, List.setIfInBounds_toArray]
                    exact ⟨_, _, _, _, _, _, rfl, AppZ.out' hz hv (hA.fourth h5), ⟨fun hm => hE.1 (not_erase hm (by decide)), fun hm => absurd (in_erase hm) (freeC_done hf (by kernel_rfl))⟩⟩
              case actF2 =>
              rintro V W7 ⟨v0, x, y, u, f, g, rfl, hI, hE⟩
              obtain ⟨rfl, hb7, hrow7⟩ := hI.fin
              obtain rfl := hE.1 (by simp)
              have hrow8 : W7.ownsRow W6.heap.size 27 5 f (J ++ [xj]).length (flatJ (J ++ [xj])) := ownsRow_cast hrow7 (by simp) (by rw [List.nil_append, ← flatJ_append])
              obtain ⟨J2, hJ2⟩ : ∃ J2, J ++ [xj] = J2 := ⟨_, rfl⟩
              rw [hJ2] at hrow8 HVN HFN
              clear hJ2
              obtain ⟨oz, cz, rfl, _⟩ := ownsRow_shapeQ hrow8
              have HB7 := Lib.hid (below_step HB6.out hb7)
              have HJ7 := Lib.hid (hrow8.mono HB6.out.size)
              have HN7 := Lib.hid (ownsRow_later HN6.out hb7)
              clear hI hE hb7 hrow7 hrow8 HNWa HNWb HS0 HJN
              have HSC := Lib.hid (sched_any W7 J2 N oz o7 cz k7 (row_jobs HJ7.out) (row_ints (l := N) (n := M) HN7.out) HVN.out )
              rw [HPI.out.len] at HSC
              go_wp2_with fail
              refine HSC.out.mono ?_
              rintro _ W8 hso
              obtain ⟨hb8, AL, OB, L, P, rfl, _⟩ := hso.good HFN.out
              have hb9 : Below W7.heap.size W7 (W8.alloc (.cells #[.slice none 0 0, .slice none 0 0] 30)) := below_alloc hb8 _
              have HP8 : Hid (ProI w (W8.alloc (.cells #[.slice none 0 0, .slice none 0 0] 30)) M (.slice oz J2.length cz) (.slice o7 M k7) J2 N) := Lib.hid ⟨below_step HB7.out hb9, ownsRow_later HJ7.out hb9, ownsRow_later HN7.out hb9, HPI.out.len, HVN.out, HFN.out⟩
              clear hb8 hb9 hso HSC
              go_wp2
              go_round
              case rel => exact ⟨k + 1, J2, N, hlt, by go_num, HP8.out⟩
              case measure => exact meas_lt hlt
            · obtain ⟨o1, c1, rfl, _⟩ := ownsRow_shapeQ hr1
              obtain ⟨o2, c2, rfl, _⟩ := ownsRow_shapeQ hr2
              have HI1 := Lib.hid (row_ints hr1)
              have HI2 := Lib.hid (row_ints hr2)
              have HCU := Lib.hid (chosenL_cut hcut)
              have HC1 := Lib.hid (chosenL_inc C (J ++ [xj]).length)
              have HC2 := Lib.hid (chosenL_inc T N.length)
              obtain ⟨cl1, hcl⟩ : ∃ l, chosenL C (J ++ [xj]).length = l := ⟨_, rfl⟩
              obtain ⟨tl, htl⟩ : ∃ l, chosenL T N.length = l := ⟨_, rfl⟩
              rw [hcl] at HI1 HCU HC1 ⊢
              rw [htl] at HI2 HCU HC2 ⊢
              clear hao hso hvn hr1 hr2 hcut hcl htl
              go_upto_region 15 with (fail)
              obtain ⟨W6, hW6⟩ : ∃ W, W = W5.alloc (.cells #[.slice o1 cl1.length c1, .slice o2 tl.length c2] 30) := ⟨_, rfl⟩
              have hb6 : Below W5.heap.size W5 W6 := by rw [hW6]; exact below_alloc (Below.refl _ _) _
              have HK6 := Lib.hid (show Blk W6 W5.heap.size 30 #[.slice o1 cl1.length c1, .slice o2 tl.length c2] by rw [hW6]; exact Blk.new ..)
              have HB6 := Lib.hid (below_step HB5.out hb6)
              have HJ6 := Lib.hid (ownsRow_later HJ5.out hb6)
              have HN6 := Lib.hid (ownsRow_later HN5.out hb6)
              have HBX6 := Lib.hid (HBX5.out.later hb6)
              rw [← hW6]
              obtain ⟨C7, hC7⟩ : ∃ x, W5.heap.size = x := ⟨_, rfl⟩
              rw [hC7] at HK6 ⊢
              clear hC7 hW6
              have HI16 := Lib.hid (HI1.out.later hb6)
              have HI26 := Lib.hid (HI2.out.later hb6)
              clear hb6 HB5 HJ5 HN5 HBX5 HI1 HI2
              go_upto_region 19 with (fail)
              have HJN := Lib.hid (ownsRow_nil HJ6.out)
              have HS0 := Lib.hid (show W6.heap.size ≤ W6.heap.size from Nat.le_refl _)
              have HNWa := Lib.hid (show 0 + J.length ≤ 1000000 by omega)
              have HNWb := Lib.hid (show J.length + 1 ≤ 1000000 by omega)
              refine wp_region_maskF [0, 2, 5, 6, 9, 10] [false, true, false, true, true, false, false, true, true, false, false] (fun w'' => Below W6.heap.size W6 w'') mixed (by kernel_rfl) ?_
              intro KR hR
              have HR := Lib.hid hR
              clear hR
              simp only [marked]
              apply wpM_val rfl
              · (intro w' hw'; go_simp; with_reducible rfl)
              simp only [Act.put, List.setIfInBounds_toArray, List.set_cons_zero, List.set_cons_succ]
              apply wpM_val rfl
              · (intro w' hw'; go_simp; with_reducible rfl)
              simp only [Act.put, List.setIfInBounds_toArray, List.set_cons_zero, List.set_cons_succ]
              apply wpM_val rfl
              · (intro w' hw'; have hx := HBX6.out.later hw'; have c2 := hx.cell 2; have c3 := hx.cell 3; have c4 := hx.cell 4; have c5 := hx.cell 5; have c6 := hx.cell 6; clear hx hw'; simp at c2 c3 c4 c5 c6; go_simp; with_reducible rfl)
              simp only [Act.put, List.setIfInBounds_toArray, List.set_cons_zero, List.set_cons_succ]
              apply wpM_val rfl
              · (intro w' hw'; go_simp; with_reducible rfl)
              simp only [Act.put, List.setIfInBounds_toArray, List.set_cons_zero, List.set_cons_succ]
              apply wpM_val rfl
              · (intro w' hw'; have hx := HK6.out.later hw'; have c0 := hx.cell 0; have c1' := hx.cell 1; clear hx hw'; simp at c0 c1'; go_simp; with_reducible rfl)
              simp only [Act.put, List.setIfInBounds_toArray, List.set_cons_zero, List.set_cons_succ]
              refine wpM_nil (HR.out _ ?_)
              clear HR
              refine wpF_inv (fun rest V wr => ∃ v0 x y u f g, V = ({ tmps := #[.slice (some ⟨sb, so, none⟩) M cs, .slice (some ⟨b, off, none⟩) l.length cl, undef, undef, u4, .bool true, .slice o6 J.length k6, .slice o7 M k7, undef, .pointer (some ⟨XB, 0, none⟩), u10, u11, u12, .slice none 0 0, .pointer (some ⟨C7, 0, none⟩), .int .i64 10, u16, u17, u18, .bool true, .slice (some ⟨sb, so, none⟩) M cs, .int .i64 M, .bool false, .bool false, .slice (some ⟨sb, so, none⟩) M cs, .int .i64 M, .bool false, .bool false, .bool false, .slice (some ⟨b, off, none⟩) l.length cl, .int .i64 l.length, .bool false, .bool false, .bool false, .slice (some ⟨sb, so, none⟩) M cs, .bool true, .bool false, .bool false, undef, .slice (some ⟨W2.heap.size, 0, none⟩) 0 0, .slice (some ⟨sb, so, none⟩) M cs, v', .slice (some ⟨b, off, none⟩) l.length cl, .int .i64 l.length, .int .i64 k, .bool true, .pointer (some ⟨b, off + k * 7, none⟩), .agg #[.bool false, .int .u8 (xm : Nat), .int .i64 xj.f, .int .i64 xj.t, .int .i64 xj.e, .int .i64 xj.r, .int .i64 xj.k], .pointer (some ⟨XB, 0, none⟩), .bool false, u50, u51, u52, u53, u54, u55, u56, u57, u58, u59, u60, u61, u62, u63, u64, u65, u66, u67, .tuple #[.slice none 0 0, .agg #[.slice o1 cl1.length c1, .slice o2 tl.length c2], .int .i64 10], .slice o6 J.length k6, .slice o7 M k7, .pointer (some ⟨XB, 2, none⟩), .agg #[.int .i64 xj.f, .int .i64 xj.t, .int .i64 xj.e, .int .i64 xj.r, .int .i64 xj.k], .tuple #[.slice none 0 0, .agg #[.slice o1 cl1.length c1, .slice o2 tl.length c2], .int .i64 10], .slice none 0 0, .agg #[.slice o1 cl1.length c1, .slice o2 tl.length c2], .int .i64 10, .int .i64 10, .bool false, .bool false, u80, u81, u82, u83, u84, u85, u86, .bool true, .bool true, v0, .slice o6 J.length k6, x, .pointer (some ⟨XB, 2, none⟩), .agg #[.int .i64 xj.f, .int .i64 xj.t, .int .i64 xj.e, .int .i64 xj.r, .int .i64 xj.k], y, u, .slice o7 M k7, .agg #[.slice o1 cl1.length c1, .slice o2 tl.length c2], f, g, u100, u101, u102, u103, u104, u105, u106, u107, u108, u109, u110, u111, undef], defers := [] } : Act) ∧ AppC W6.heap.size W6 wr 27 5 rest 0 2 5 6 9 10 (0 + J.length) ([] ++ flatJ J) (jobC xj) v0 x y u f g (0 + J.length + 1) ([] ++ flatJ J ++ (flatJ [xj]))) [0, 2, 5, 6, 9, 10] ?actJ3 ?actS3 ?actF3 _ _ _ _ rfl (by decide) (fun _ h => h) ⟨_, _, _, _, _, _, rfl, .inl ⟨by decide, by decide, .inl ⟨by decide, by decide, (Below.refl _ _).drew, Nat.le_refl _, fun h => absurd (by decide) h⟩⟩⟩
              case actJ3 =>
                rintro rest V wr ⟨v0, x, y, u, f, g, rfl, hI⟩
                exact hI.bel
              case actS3 =>
                rintro rest V wr c hnd hC ⟨v0, x, y, u, f, g, rfl, hI⟩ hc hf
                have hcc := hC c hc
                simp only [List.mem_cons, List.not_mem_nil, or_false] at hcc
                rcases hcc with rfl | rfl | rfl | rfl | rfl | rfl
                · have hd0 := hnd
                  obtain ⟨hs', ht', hZ⟩ := hI.in1 (.inl hc)
                  refine ⟨_, rfl, rfl, stepC_val (v := .slice (some ⟨wr.heap.size, 0, none⟩) 0 0) (w' := wr.alloc (.cells #[] 27)) ?_ ?_⟩
                  · clear hI hZ; go_simp
                  · simp only [Act.put, List.setIfInBounds_toArray]
                    exact ⟨_, _, _, _, _, _, rfl, .inl ⟨erase_in hs' (by decide), erase_in ht' (by decide), hZ.lit hnd hc (by decide) HS0.out⟩⟩
                · have hz : 0 ∉ rest := freeC_done hf (by kernel_rfl)
                  obtain ⟨hs', ht', hZ⟩ := hI.in1 (.inr (.inl hc))
                  obtain ⟨hv, hA⟩ := hZ.in' hz
                  obtain ⟨hr0, hs0⟩ := hA.row0 hc
                  obtain ⟨x', w', hr, ho, hg, hat⟩ := run_appV elemJ (by decide) hr0 (Nat.le_trans HS0.out hs0) (jobs_src ((row_jobs HJ6.out).later hI.bel) HJN.out.1) HJN.out.2 (flatJ_one J) HNWa.out 22
                  refine ⟨_, rfl, rfl, stepC_val (v := x') (w' := w') ?_ ?_⟩
                  · exact exec_append _ _ rfl hr
                  · simp only [Act.put, List.setIfInBounds_toArray]
                    exact ⟨_, _, _, _, _, _, rfl, .inl ⟨erase_in hs' (by decide), erase_in ht' (by decide), AppZ.out' hz hv (hA.first hnd hc (by decide) HS0.out ho hg hat)⟩⟩
                · have hd0 := hnd
                  obtain ⟨hs', ht', hZ⟩ := hI.in1 (.inr (.inr (.inl hc)))
                  refine ⟨_, rfl, rfl, stepC_val (v := .slice (some ⟨wr.heap.size, 0, none⟩) 1 1) (w' := wr.alloc (.cells (jobC xj) 27)) ?_ ?_⟩
                  · clear hI hZ; go_simp
                  · simp only [Act.put, List.setIfInBounds_toArray]
                    exact ⟨_, _, _, _, _, _, rfl, .inl ⟨erase_in hs' (by decide), erase_in ht' (by decide), hZ.second hnd hc (by decide) HS0.out⟩⟩
                · have h2 : 2 ∉ rest := freeC_done hf (by kernel_rfl)
                  have h4 : 5 ∉ rest := freeC_done hf (by kernel_rfl)
                  obtain ⟨hs', ht', hZ⟩ := hI.in1 (.inr (.inr (.inr (.inl hc))))
                  have hz : 0 ∉ rest := fun hm => by
                    rcases hZ with ⟨_, h2', _⟩ | ⟨h2', _⟩
                    · exact h2 h2'.1
                    · exact h2' hm
                  obtain ⟨hv, hA⟩ := hZ.in' hz
                  obtain ⟨hs0, hr0, X, rfl, hX⟩ := hA.parts hc h2 h4
                  obtain ⟨z', w', hr, ho, hg, hat⟩ := run_appV elemJ (by decide) hr0 (Nat.le_trans HS0.out hs0) (one_src (cs := (flatJ [xj])) hX rfl) (fun a ha => by cases ha; rfl) (flatJ_one [xj]) (by rw [Nat.zero_add]; exact HNWb.out) 22
                  refine ⟨_, rfl, rfl, stepC_val (v := z') (w' := w') ?_ ?_⟩
                  · exact exec_append _ _ rfl hr
                  · simp only [Act.put, List.setIfInBounds_toArray]
                    exact ⟨_, _, _, _, _, _, rfl, .inl ⟨erase_in hs' (by decide), erase_in ht' (by decide), AppZ.out' hz hv (hA.third hnd hc h2 h4 (by decide) HS0.out ho hg)⟩⟩
                · have h5 : 6 ∉ rest := freeC_done hf (by kernel_rfl)
                  obtain ⟨hs', ht', hZ⟩ := hI.in1 (.inr (.inr (.inr (.inr hc))))
                  obtain ⟨hz, h2, h4, hbz, hoz⟩ := hZ.done h5
                  obtain ⟨oz, cz, rfl, _⟩ := ownsRow_shapeQ hoz
                  have hn : 0 + J.length + 1 = (J ++ [xj]).length := by simp
                  rw [hn] at hoz ⊢
                  rw [List.nil_append, ← flatJ_append] at hoz
                  have HCC := Lib.hid (checkCut_ok wr (J ++ [xj]) N cl1 tl oz o7 o1 o2 cz k7 c1 c2 (row_jobs hoz) ((row_ints (l := N) (n := M) HN6.out).later hbz) (HI16.out.later hbz) (HI26.out.later hbz) HVN.out HC1.out HC2.out HCU.out)
                  rw [HPI.out.len] at HCC
                  refine ⟨_, rfl, rfl, ?_⟩
                  refine stepC_call (f := 10) (args := #[.slice oz (J ++ [xj]).length cz, .slice o7 M k7, .agg #[.slice o1 cl1.length c1, .slice o2 tl.length c2]]) (w' := wr) (by clear hI hZ; go_simp) ?_
                  refine HCC.out.mono ?_
                  rintro _ w9 ⟨rfl, hb9⟩
                  refine ⟨_, rfl, ?_⟩
                  simp only [Act.put, List.setIfInBounds_toArray]
                  exact ⟨_, _, _, _, _, _, rfl, .inr ⟨hnd.not_mem_erase, ⟨fun hm => hz (in_erase hm), fun hm => h2 (in_erase hm), fun hm => h4 (in_erase hm), fun hm => h5 (in_erase hm)⟩, below_step hbz hb9, rfl, fun hm => absurd (erase_in ht' (by decide)) hm⟩⟩
                · have h9 : 9 ∉ rest := freeC_done hf (by kernel_rfl)
                  rcases hI with ⟨h, _⟩ | ⟨_, ⟨h1, h2, h3, h4⟩, h5, rfl, _⟩
                  · exact absurd h h9
                  refine ⟨_, rfl, rfl, stepC_val (v := .bool false) (w' := wr) ?_ ?_⟩
                  · go_simp
                  · simp only [Act.put, List.setIfInBounds_toArray]
                    exact ⟨_, _, _, _, _, _, rfl, .inr ⟨fun hm => h9 (in_erase hm), ⟨fun hm => h1 (in_erase hm), fun hm => h2 (in_erase hm), fun hm => h3 (in_erase hm), fun hm => h4 (in_erase hm)⟩, h5, rfl, fun _ => rfl⟩⟩
              case actF3 =>
              rintro V W7 ⟨v0, x, y, u, f, g, rfl, hI⟩
              obtain ⟨rfl, hb7⟩ := hI.fin
              have HB7 := Lib.hid (below_step HB6.out hb7)
              have HJ7 := Lib.hid (ownsRow_later HJ6.out hb7)
              have HN7 := Lib.hid (ownsRow_later HN6.out hb7)
              clear hI hb7 HNWa HNWb HS0 HJN
              have HSC := Lib.hid (sched_any W7 J N o6 o7 k6 k7 (row_jobs HJ7.out) (row_ints (l := N) (n := M) HN7.out) HPI.out.val )
              rw [HPI.out.len] at HSC
              go_wp2_with fail
              refine HSC.out.mono ?_
              rintro _ W8 hso
              obtain ⟨hb8, AL, OB, L, P, rfl, _⟩ := hso.good HPI.out.fe
              have hb9 : Below W7.heap.size W7 (W8.alloc (.cells #[.slice none 0 0, .slice none 0 0] 30)) := below_alloc hb8 _
              have HP8 : Hid (ProI w (W8.alloc (.cells #[.slice none 0 0, .slice none 0 0] 30)) M (.slice o6 J.length k6) (.slice o7 M k7) J N) := Lib.hid ⟨below_step HB7.out hb9, ownsRow_later HJ7.out hb9, ownsRow_later HN7.out hb9, HPI.out.len, HPI.out.val, HPI.out.fe⟩
              clear hb8 hb9 hso HSC
              go_wp2
              go_round
              case rel => exact ⟨k + 1, J, N, hlt, by go_num, HP8.out⟩
              case measure => exact meas_lt hlt
      · obtain rfl : k = l.length := by omega
        go_wp2
        go_ret
        exact ⟨rfl, HPI.out.bel⟩
end Go.Proofs.Ythgkfdhkmkbioaa
