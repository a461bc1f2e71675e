/- Chapter 37: the reference's Match. -/
import Derived.Test.YtmcodendnpjlaaaDoorRefA37
import Derived.Test.YtmcodendnpjlaaaDoorWz37
import Derived.Test.YtmcodendnpjlaaaDoorPlainG37
namespace Go.Proofs.YtmcodendnpjlaaaDoor
open Go.RowKit
attribute [local go_sem] Oper.semAt_some

theorem run_appendS37 {P : Program} {w2 wr : World} {tt ty e : TypeId} {size bytes : Nat} {v : Value} {n k c : Nat} {xs news : List Value} {ao : Option Addr} (hI : ElemI P tt e size bytes) (hG : Row w2 wr e size v n xs) (hn : n + k ≤ 1000000000) (hb : bytes ≤ 100000) (hlen : news.length = k * size) (h1 : ∀ u ∈ news, u.oneCell' = true) (hcells : Cells wr ao news) :
    ∃ v' w', (Builtin.append_ #[tt, tt] ty #[v, .slice ao k c]).run P wr = .ok v' w' ∧ Row w2 w' e size v' (n + k) (xs ++ news) := by
  obtain ⟨i, z, hi, hz, h2, h3, h4⟩ := hI.info
  cases ao with
  | none =>
    obtain rfl : news = [] := by
      cases news with
      | nil => rfl
      | cons u us =>
        obtain ⟨_, _, h0, _⟩ := hcells 0 u rfl
        cases h0
    obtain rfl : k = 0 := by
      have := hI.pos
      rcases Nat.eq_zero_or_pos k with h0 | h0
      · exact h0
      · have := Nat.mul_pos h0 this
        simp at hlen
        omega
    refine ⟨v, wr, ?_, hG.cast rfl (by simp)⟩
    rcases hG.own.2 with ⟨rfl, rfl⟩ | ⟨g, cap, cur, rfl, _, _, hnc, _⟩
    · simp [Builtin.append_, run_underlying hI.under, sizeOf, typeInfo, hi, Builtin.lenOf, Builtin.firstCells]
    · simp [Builtin.append_, run_underlying hI.under, sizeOf, typeInfo, hi, Builtin.lenOf, Builtin.firstCells, hnc, storeCells]
  | some ad =>
    obtain ⟨v', w', hr, hown, hgrow, _⟩ := run_append_own_at (P := P) wr w2.heap.size tt ty e i z size bytes hI.under hi hz h2 h3 h4 hI.pos v n xs hG.own ad k c news hlen (fun j u hj => by
      obtain ⟨b, off, ho, hc⟩ := hcells j u hj
      injection ho with ho
      subst ho
      rw [Addr.add_lit]
      exact hc) h1 (by simp only [maxLen]; omega) (by have := Nat.mul_le_mul hn hb; omega) hG.below.size
    exact ⟨v', w', hr, hG.app hown hgrow⟩
theorem run_exec_appendR {P : Program} {a : Act} {o : Oper} {s x : Operand} {ts : Array TypeId} {v1 v2 v' : Value} {w w' : World} (hop : o.op = .call { callee := .builtin .append, args := #[s, x], argTypes := ts }) (hs : a.eval s = v1) (hx : a.eval x = v2) (hrun : (Builtin.append_ ts o.type #[v1, v2]).run P w = .ok v' w') : (execOp a.eval o).run P w = .ok (.value v') w' := by
  simp [execOp, hop, resolve, invoke, builtin, hs, hx, hrun, Result.andThen]
theorem takeB_less (a b : Fd) : takeB (toI b.pairs) (toI a.pairs) b.cost a.cost = Fd.less a b := by
  unfold takeB Fd.less
  rw [lessT_toI]
  by_cases e : a.cost = b.cost
  · rw [if_pos e, decide_eq_true e, decide_eq_false (by omega)]
    simp
  · rw [if_neg e, decide_eq_false e]
    simp
/-- The loop that makes the first table. -/
def FillRel (W : World) (M : Nat) (f0 : Nat → Fd) (v i : Value) (wr : World) : Prop := ∃ (t : Nat) (ls : List ChA), t ≤ M ∧ i = .int .i64 t ∧ Tb W wr v t f0 ls
def CountRel (used : Nat) (m : Nat) (c i : Value) : Prop := ∃ t : Nat, t ≤ m ∧ i = .int .i64 t ∧ c = .int .i64 (leftE t used : Nat)

theorem bit_div (t k : Nat) : (((t : Int) / 2 ^ k).tmod 2) = if t.testBit k then 1 else 0 := by
  have h1 : ((t : Int) / 2 ^ k) = ((t / 2 ^ k : Nat) : Int) := by push_cast; rfl
  rw [h1, Nat.testBit_eq_decide_div_mod_eq]
  generalize t / 2 ^ k = q
  rw [Int.tmod_eq_emod_of_nonneg (by omega)]
  by_cases h : q % 2 = 1
  · rw [decide_eq_true h, if_pos rfl]; omega
  · rw [decide_eq_false h, if_neg (by simp)]; omega
theorem bit_tt0 {t k : Nat} (h : t.testBit k = true) : (((((t : Int) / 2 ^ k).tmod 2) == 0)) = false ∧ (((((t : Int) / 2 ^ k).tmod 2) == 1)) = true := by rw [bit_div, h]; exact ⟨rfl, rfl⟩
theorem bit_ff0 {t k : Nat} (h : t.testBit k = false) : (((((t : Int) / 2 ^ k).tmod 2) == 0)) = true ∧ (((((t : Int) / 2 ^ k).tmod 2) == 1)) = false := by rw [bit_div, h]; exact ⟨rfl, rfl⟩
theorem LS_zero (E X : List Ps) (u : Nat) : LS E X 0 u = ⟨[], 5 * (leftE X.length u : Nat)⟩ := rfl
theorem oneC (o : Option Addr) (n c : Nat) (y : Int) : ∀ u ∈ [Value.slice o n c, .int .i64 y], u.oneCell' = true := fun u hu => by simp at hu; rcases hu with rfl | rfl <;> rfl
/-- The loop over the entries. -/
def StageRel (W : World) (E X : List Ps) (M : Nat) (v i : Value) (wr : World) : Prop := ∃ (k : Nat) (ls : List ChA), k ≤ E.length ∧ i = .int .i64 ((E.length : Int) - 1 - k) ∧ Tb W wr v M (fun u => LS E X k u) ls
/-- The loop over the masks. -/
def MaskRel (W : World) (E X : List Ps) (vB : Value) (M k : Nat) (lsB : List ChA) (v i : Value) (wr : World) : Prop := ∃ (t : Nat) (ls : List ChA), t ≤ M ∧ i = .int .i64 t ∧ St37 W wr vB v M t (fun u => LS E X k u) (fun u => LS E X (k + 1) u) lsB ls
/-- The loop over the exits. -/
def ExitRel (W : World) (E X : List Ps) (vB vN : Value) (M k t : Nat) (lsB lsN : List ChA) (g : Nat) (j : Value) (wr : World) : Prop := ∃ (i : Nat) (o : Option Addr) (c : Nat), i ≤ X.length ∧ j = .int .i64 i ∧ Bx37 W wr vB vN M t (fun u => LS E X k u) (fun u => LS E X (k + 1) u) lsB lsN g ⟨PT E X k t i, o, c⟩

set_option maxRecDepth 100000 in
set_option maxHeartbeats 32000000 in
theorem RMatch_any (oe ox : Option Addr) (ce cx : Nat) (E X : List Ps) (w : World) (he : Pss w oe E) (hx : Pss w ox X) (hle : E.length ≤ 9000000000000000000) (hlx : X.length ≤ 9000000000000000000) (hse : ∀ x ∈ E, x.s.size ≤ 9223372036854775807) (hsx : ∀ x ∈ X, x.s.size ≤ 9223372036854775807) :
    Calls Tryd.prog 14 #[.slice oe E.length ce, .slice ox X.length cx] w (MOut E X w) := by
  have HE := Lib.hid he
  have HX := Lib.hid hx
  have HSE := Lib.hid hse
  have HSX := Lib.hid hsx
  clear he hx hse hsx
  go_enter Tryd.func14, Tryd.ntmps14
  go_wp2_with fail
  refine (RValidL_any oe ce E w HE.out hle HSE.out).mono ?_
  rintro _ W2 ⟨rfl, hb⟩
  have HB2 := Lib.hid hb
  clear hb
  cases hve : validP E with
  | false =>
    have HV := Lib.hid (show (validP E && validP X) = false by rw [hve]; rfl)
    clear hve
    go_wp2
    go_ret3
    exact ⟨HB2.out, .inr ⟨HV.out, rfl⟩⟩
  | true =>
  have HVE := Lib.hid hve
  clear hve
  go_wp2_with fail
  refine (RValidL_any ox cx X W2 (HX.out.later HB2.out) hlx HSX.out).mono ?_
  rintro _ W3 ⟨rfl, hb⟩
  have HB3 := Lib.hid (below_step HB2.out hb)
  clear hb HB2
  cases hvx : validP X with
  | false =>
    have HV := Lib.hid (show (validP E && validP X) = false by rw [hvx, Bool.and_false])
    clear hvx
    go_wp2
    go_ret3
    exact ⟨HB3.out, .inr ⟨HV.out, rfl⟩⟩
  | true =>
  have HVX := Lib.hid hvx
  clear hvx
  have hE8 : E.length ≤ 8 := validP_len HVE.out
  have hX8 : X.length ≤ 8 := validP_len HVX.out
  have HT0 := Lib.hid (Tb.nil (W := W3) (wr := W3) (Below.refl _ _) (fun u => LS E X 0 u))
  obtain ⟨M, hM⟩ : ∃ M : Nat, M = 2 ^ X.length := ⟨_, rfl⟩
  have HM := Lib.hid hM
  clear hM
  have HM1 := Lib.hid (show 0 < M by rw [HM.out]; exact Nat.pow_pos (by decide))
  have hM8 : M ≤ 256 := by rw [HM.out]; exact Nat.pow_le_pow_right (n := 2) (by omega) hX8
  have e1 : wrap64 ((2 : Int) ^ X.length) = (M : Int) := by
    have h1 : ((2 : Int) ^ X.length) = (M : Int) := by rw [HM.out]; push_cast; rfl
    rw [h1]
    unfold wrap64
    omega
  go_wp2
  go_loopw [9, 10] (FillRel W3 M (fun u => LS E X 0 u)) (fun _ i _ => M - (intOf i).toNat)
  case atStart => exact ⟨0, [], Nat.zero_le _, rfl, HT0.out⟩
  case round =>
    obtain ⟨t, ls, ht, rfl, htb⟩ := hrel
    obtain ⟨wA, rfl⟩ : ∃ wA : World, wA = wr := ⟨_, rfl⟩
    obtain ⟨oN, cN, rfl, _⟩ := htb.row.shape
    have HTB := Lib.hid htb
    clear htb HT0
    by_cases hlt : t < M
    · have y1 : (t : Int) < (M : Int) := by omega
      go_wp2
      go_loop [11, 12] (CountRel t X.length) (fun _ i => X.length - (intOf i).toNat)
      case atStart => exact ⟨0, Nat.zero_le _, rfl, by simp [leftE]⟩
      case round =>
        obtain ⟨k, hk, rfl, rfl⟩ := hrel
        by_cases hk2 : k < X.length
        · have y2 : (k : Int) < (X.length : Int) := by omega
          have hl := leftE_le k t
          have HLE := Lib.hid (leftE_succ t k)
          obtain ⟨L, hL⟩ : ∃ L, leftE k t = L := ⟨_, rfl⟩
          rw [hL] at hl HLE ⊢
          clear hL
          cases hbit : t.testBit k with
          | true =>
            have hb0 := (bit_tt0 hbit).1
            rw [hbit] at HLE
            clear hbit
            go_wp2
            go_round
            case rel => exact ⟨k + 1, by omega, by go_num, by rw [HLE.out]; rfl⟩
            case measure => simp [intOf]; omega
          | false =>
            have hb0 := (bit_ff0 hbit).1
            rw [hbit] at HLE
            clear hbit
            go_wp2
            go_round
            case rel => exact ⟨k + 1, by omega, by go_num, by rw [HLE.out]; go_num⟩
            case measure => simp [intOf]; omega
        · obtain rfl : k = X.length := by omega
          have hl := leftE_le X.length t
          have HL0 := Lib.hid (LS_zero E X t)
          obtain ⟨L, hL⟩ : ∃ L, leftE X.length t = L := ⟨_, rfl⟩
          rw [hL] at hl HL0 ⊢
          clear hL
          have HN1 := Lib.hid (show t + 1 ≤ 1000000000 by omega)
          have HOM := Lib.hid (oneC none 0 0 (5 * (L : Int)))
          go_wp2_with (at_builtin; refine wp_append1R (news := [.slice none 0 0, .int .i64 (5 * (L : Int))]) elemC HTB.out.row HN1.out (by decide) rfl HOM.out rfl _ _ rfl rfl rfl rfl ?_)
          clear HOM HN1
          intro v3 w3 hrow3 hgr hat
          have HT3 := Lib.hid (HTB.out.push (a := ⟨⟨[], 5 * (L : Int)⟩, none, 0⟩) (below_alloc (Below.refl _ _) _) ⟨Twos.nil, Nat.le_refl _⟩ (fun p hp => by cases hp) (by rw [HL0.out]) hrow3 hgr (by rw [World.size_alloc]; exact hat))
          clear hrow3 hgr hat HTB
          go_wp2
          go_roundw
          case rel => exact ⟨t + 1, _, hlt, by go_num, HT3.out⟩
          case measure => simp [intOf]; omega
    · obtain rfl : t = M := by omega
      go_wp2
      try rw [e1]
      go_loopw [9, 13] (StageRel W3 E X t) (fun _ i _ => ((intOf i) + 1).toNat)
      case atStart => exact ⟨0, ls, Nat.zero_le _, by go_num, HTB.out⟩
      case round =>
        obtain ⟨k, lsB, hk, rfl, htb⟩ := hrel
        obtain ⟨wA2, rfl⟩ : ∃ wA2 : World, wA2 = wr := ⟨_, rfl⟩
        obtain ⟨gB, cB, rfl, _, _⟩ := htb.row.some_of HM1.out
        have HTB2 := Lib.hid htb
        clear htb HTB
        by_cases hkl : k < E.length
        · obtain ⟨e, he⟩ : ∃ e : Nat, (E.length : Int) - 1 - k = e := ⟨E.length - 1 - k, by omega⟩
          rw [he]
          have HEK := Lib.hid (show E.length - (k + 1) = e by omega)
          have he0 : e < E.length := by omega
          have HVAL := Lib.hid (show (e : Int) - 1 = (E.length : Int) - 1 - ((k + 1 : Nat) : Int) by omega)
          have HS0 := Lib.hid (St37.start HTB2.out (fun u => LS E X (k + 1) u))
          clear he HTB2
          have z1 : (0 : Int) ≤ (e : Int) := by omega
          have z2 : (e : Int) < (E.length : Int) := by omega
          go_wp2
          go_loopw [14, 15] (MaskRel W3 E X (.slice (some ⟨gB, 0, none⟩) t cB) t k lsB) (fun _ i _ => t - (intOf i).toNat)
          case atStart => exact ⟨0, [], Nat.zero_le _, rfl, HS0.out⟩
          case round =>
            obtain ⟨u, lsN, hu, rfl, hst⟩ := hrel
            obtain ⟨wB, rfl⟩ : ∃ wB : World, wB = wr := ⟨_, rfl⟩
            obtain ⟨oN, cN, rfl, _⟩ := hst.n.row.shape
            have HST := Lib.hid hst
            clear hst HS0
            by_cases hu2 : u < t
            · have HPT0 := Lib.hid (show PT E X k u 0 = ⟨(LS E X k u).pairs, (LS E X k u).cost + 5⟩ from rfl)
              have HBC := Lib.hid (show wB.cell? ⟨gB, u * 2, none⟩ = some (.slice (getC lsB u).o (LS E X k u).pairs.length (getC lsB u).cap) ∧ wB.cell? ⟨gB, u * 2 + 1, none⟩ = some (.int .i64 (LS E X k u).cost) from HST.out.b.cell2 hu2)
              have HFO := Lib.hid (LS_ok hE8 hX8 (show k ≤ E.length by omega) u)
              have HSTART := Lib.hid (fun (g : Nat) (w' : World) (hb : Below wB.heap.size wB w') (hg : wB.heap.size ≤ g) (hbx : Blk w' g 62 #[.slice (getC lsB u).o (LS E X k u).pairs.length (getC lsB u).cap, .int .i64 ((LS E X k u).cost + 5)]) => show Bx37 W3 w' (.slice (some ⟨gB, 0, none⟩) t cB) (.slice oN u cN) t u (fun u => LS E X k u) (fun u => LS E X (k + 1) u) lsB lsN g ⟨PT E X k u 0, (getC lsB u).o, (getC lsB u).cap⟩ from Bx37.start HST.out hu2 ((LS E X k u).cost + 5) hb hg hbx)
              have hF1 := HFO.out.lo
              have hF2 := HFO.out.hi
              obtain ⟨F0, hF0⟩ : ∃ F, LS E X k u = F := ⟨_, rfl⟩
              obtain ⟨oF, hoF⟩ : ∃ x, (getC lsB u).o = x := ⟨_, rfl⟩
              obtain ⟨cF, hcF⟩ : ∃ x, (getC lsB u).cap = x := ⟨_, rfl⟩
              rw [hF0, hoF, hcF] at HBC HSTART
              rw [hF0] at hF1 hF2
              clear hF0 hoF hcF HFO HPT0
              have HC0 := Lib.hid HBC.out.1
              have HC1 := Lib.hid HBC.out.2
              clear HBC
              have y1 : (0 : Int) ≤ (u : Int) := by omega
              have y2 : (u : Int) < (t : Int) := by omega
              go_wp2_with fail
              refine wp_region_one 13 12 16 (fun w'' => Below wB.heap.size wB w'') (.cells #[.slice none 0 0, .int .i64 0] 62) (fun g => .pointer (some ⟨g, 0, none⟩)) wB.heap.size mixed (by kernel_rfl) (by kernel_rfl) (below_closed wB) (below_base wB) (Below.refl _ _).drew ?_
              simp only [List.take_succ_cons, List.take_zero, List.drop_succ_cons, List.drop_zero, List.eraseIdx_cons_succ, List.eraseIdx_cons_zero]
              intro KR hR
              have HR := Lib.hid hR
              clear hR
              have HCC := Lib.hid (show ∀ w'', Below wB.heap.size wB w'' → w''.cell? ⟨gB, u * 2, none⟩ = some (.slice oF F0.pairs.length cF) ∧ w''.cell? ⟨gB, u * 2 + 1, none⟩ = some (.int .i64 F0.cost) from fun w'' hw => ⟨cell_kept hw HC0.out, cell_kept hw HC1.out⟩)
              apply wpB_val rfl
              · (intro w' hw'; go_simp; with_reducible rfl)
              simp only [Act.put, List.setIfInBounds_toArray, List.set_cons_zero, List.set_cons_succ]
              apply wpB_val rfl
              · (intro w' hw'; go_simp; with_reducible rfl)
              simp only [Act.put, List.setIfInBounds_toArray, List.set_cons_zero, List.set_cons_succ]
              apply wpB_val rfl
              · (intro w' hw'; go_simp; with_reducible rfl)
              simp only [Act.put, List.setIfInBounds_toArray, List.set_cons_zero, List.set_cons_succ]
              apply wpB_val rfl
              · (intro w' hw'; go_simp; with_reducible rfl)
              simp only [Act.put, List.setIfInBounds_toArray, List.set_cons_zero, List.set_cons_succ]
              apply wpB_val rfl
              · (intro w' hw'; obtain ⟨c0, c1⟩ := HCC.out w' hw'; go_simp; with_reducible rfl)
              simp only [Act.put, List.setIfInBounds_toArray, List.set_cons_zero, List.set_cons_succ]
              apply wpB_val rfl
              · (intro w' hw'; go_simp; with_reducible rfl)
              simp only [Act.put, List.setIfInBounds_toArray, List.set_cons_zero, List.set_cons_succ]
              apply wpB_val rfl
              · (intro w' hw'; go_simp; with_reducible rfl)
              simp only [Act.put, List.setIfInBounds_toArray, List.set_cons_zero, List.set_cons_succ]
              apply wpB_val rfl
              · (intro w' hw'; go_simp; with_reducible rfl)
              simp only [Act.put, List.setIfInBounds_toArray, List.set_cons_zero, List.set_cons_succ]
              apply wpB_val rfl
              · (intro w' hw'; go_simp; with_reducible rfl)
              simp only [Act.put, List.setIfInBounds_toArray, List.set_cons_zero, List.set_cons_succ]
              apply wpB_val rfl
              · (intro w' hw'; obtain ⟨c0, c1⟩ := HCC.out w' hw'; go_simp; with_reducible rfl)
              simp only [Act.put, List.setIfInBounds_toArray, List.set_cons_zero, List.set_cons_succ]
              apply wpB_val rfl
              · (intro w' hw'; go_simp; with_reducible rfl)
              simp only [Act.put, List.setIfInBounds_toArray, List.set_cons_zero, List.set_cons_succ]
              apply wpB_val rfl
              · (intro w' hw'; go_simp; with_reducible rfl)
              simp only [Act.put, List.setIfInBounds_toArray, List.set_cons_zero, List.set_cons_succ]
              refine wpB_nil (HR.out _ ?_ (fun g5 w2 hg5 hw2 hbk => ?_))
              · intro o ho w' hw'
                cases ho
                go_simp
              simp only [Act.put, List.setIfInBounds_toArray, List.set_cons_zero, List.set_cons_succ]
              clear HR HCC
              have HBK := Lib.hid (show Blk w2 g5 62 #[.slice none 0 0, .int .i64 0] from hbk)
              have HBX0 := Lib.hid (HSTART.out g5 ((w2.setCell ⟨g5, 0, none⟩ (.slice oF F0.pairs.length cF)).setCell ⟨g5, 1, none⟩ (.int .i64 (F0.cost + 5))) ((hw2.setCell (p := ⟨g5, 0, none⟩) hg5 _).setCell (p := ⟨g5, 1, none⟩) hg5 _) hg5 (by simpa using (HBK.out.set 0 (.slice oF F0.pairs.length cF)).set 1 (.int .i64 (F0.cost + 5))))
              have q0 : w2.cell? ⟨g5, 0, none⟩ = some (.slice none 0 0) := HBK.out.cell 0
              have q1 : w2.cell? ⟨g5, 1, none⟩ = some (.int .i64 0) := HBK.out.cell 1
              have f0 := HBK.out.frozen 0
              have f1 := HBK.out.frozen 1
              clear hbk HSTART HC0 HC1 hw2 HST
              go_wp2
              clear q0 q1 f0 f1 HBK hF1 hF2
              try rw [e1]
              go_loopw [17] (ExitRel W3 E X (.slice (some ⟨gB, 0, none⟩) t cB) (.slice oN u cN) t k u lsB lsN g5) (fun j _ => X.length - (intOf j).toNat)
              case atStart => exact ⟨0, oF, cF, Nat.zero_le _, rfl, HBX0.out⟩
              case round =>
                obtain ⟨i, oc, cc, hi, rfl, hbx⟩ := hrel
                obtain ⟨wC, rfl⟩ : ∃ wC : World, wC = wr := ⟨_, rfl⟩
                have HBX := Lib.hid hbx
                clear hbx HBX0
                by_cases hi2 : i < X.length
                · obtain ⟨gx, fx, hgo, x0, x1⟩ := (HX.out.later (below_step HB3.out HBX.out.st.b.row.below)) i hi2
                  subst hgo
                  obtain ⟨ge, fe, hgo, p0, p1⟩ := (HE.out.later (below_step HB3.out HBX.out.st.b.row.below)) e he0
                  subst hgo
                  have HV1 := Lib.hid (distV_dP (validP_memR HVE.out he0) (validP_memR HVX.out hi2))
                  have HZ1 := Lib.hid (show (E.getD e Ps.zero).s.size ≤ 9223372036854775807 from HSE.out _ (by rw [List.getD_eq_getElem?_getD, List.getElem?_eq_getElem he0]; exact List.getElem_mem he0))
                  have HZ2 := Lib.hid (show (X.getD i Ps.zero).s.size ≤ 9223372036854775807 from HSX.out _ (by rw [List.getD_eq_getElem?_getD, List.getElem?_eq_getElem hi2]; exact List.getElem_mem hi2))
                  have HDE := Lib.hid (show dE E X e i = dP (E.getD e Ps.zero) (X.getD i Ps.zero) from rfl)
                  obtain ⟨pe, hpe⟩ : ∃ p, E.getD e Ps.zero = p := ⟨_, rfl⟩
                  obtain ⟨px, hpx⟩ : ∃ p, X.getD i Ps.zero = p := ⟨_, rfl⟩
                  rw [hpe] at p0 p1 HV1 HZ1 HDE
                  rw [hpx] at x0 x1 HV1 HZ2 HDE
                  have HPE := Lib.hid hpe
                  have HPX := Lib.hid hpx
                  clear hpe hpx
                  have y3 : (0 : Int) ≤ (i : Int) := by omega
                  have y4 : (i : Int) < (X.length : Int) := by omega
                  have HX0 := Lib.hid x0
                  have HP0 := Lib.hid p0
                  clear x0 p0
                  cases hbit : u.testBit i with
                  | true =>
                    have hb1 := (bit_tt0 hbit).2
                    have HPS := Lib.hid (PT_skip (X := X) (t := i) HEK.out (by rw [hbit]; rfl))
                    clear hbit
                    go_wp2_with fail
                    go_quiet (fail)
                    go_wp2
                    go_roundw
                    case rel => exact ⟨i + 1, oc, cc, hi2, by go_num, by rw [HPS.out]; exact HBX.out.later (below_drewN (Below.refl _ _) _)⟩
                    case measure => simp [intOf]; omega
                  | false =>
                  have hb1 := (bit_ff0 hbit).2
                  have HBIT := Lib.hid hbit
                  clear hbit
                  by_cases hmn : px.mn ≤ pe.mn
                  · have hd : decide (px.mn ≤ pe.mn) = true := decide_eq_true hmn
                    have HPS := Lib.hid (PT_skip (X := X) (t := i) (used := u) HEK.out (by unfold okE; rw [HPE.out, HPX.out, decide_eq_false (by omega)]; simp))
                    go_wp2_with fail
                    go_quiet (fail)
                    go_wp2
                    go_roundw
                    case rel => exact ⟨i + 1, oc, cc, hi2, by go_num, by rw [HPS.out]; exact HBX.out.later (below_drewN (Below.refl _ _) _)⟩
                    case measure => simp [intOf]; omega
                  have hd : decide (px.mn ≤ pe.mn) = false := decide_eq_false hmn
                  have HPP := Lib.hid (PT_pick (X := X) (t := i) HEK.out HBIT.out (by unfold okE; rw [HPE.out, HPX.out, decide_eq_true (by omega)]))
                  obtain ⟨S, HBT⟩ := bitF (used := u) (t := i) (by omega) (by omega)
                  have HUS := Lib.hid (show u + S = u ||| 1 <<< i from by rw [← HBT.eq]; exact add_bit HBIT.out)
                  have HUL := Lib.hid (show u + S < t from by rw [HUS.out, HM.out, Nat.one_shiftLeft]; exact Nat.or_lt_two_pow (by rw [← HM.out]; exact hu2) (Nat.pow_lt_pow_right (by decide) hi2))
                  have e2 := HBT.shl
                  clear HBT
                  go_wp2_with fail
                  go_quiet (fail)
                  clear hb1 hd hmn x1 p1
                  obtain ⟨wD, hwD⟩ : ∃ wD, wD = wC.drewN nq := ⟨_, rfl⟩
                  have HBD := Lib.hid (show Below wC.heap.size wC wD from by rw [hwD]; exact below_drewN (Below.refl _ _) _)
                  rw [← hwD]
                  clear hwD
                  replace HBX := Lib.hid (HBX.out.later HBD.out)
                  replace HX0 := Lib.hid (cell_kept HBD.out HX0.out)
                  replace HP0 := Lib.hid (cell_kept HBD.out HP0.out)
                  have HRC := Lib.hid (show wD.cell? ⟨gB, (u + S) * 2, none⟩ = some (.slice (getC lsB (u + S)).o (LS E X k (u + S)).pairs.length (getC lsB (u + S)).cap) ∧ wD.cell? ⟨gB, (u + S) * 2 + 1, none⟩ = some (.int .i64 (LS E X k (u + S)).cost) from HBX.out.st.b.cell2 HUL.out)
                  have HRT := Lib.hid (show Twos wD (getC lsB (u + S)).o (toI (LS E X k (u + S)).pairs) from (HBX.out.st.b.at HUL.out).tw)
                  have HRO := Lib.hid (LS_ok hE8 hX8 (show k ≤ E.length by omega) (u + S))
                  rw [← HUS.out] at HPP
                  have hul : (u : Int) + (S : Int) < (t : Int) := by have := HUL.out; omega
                  have hul0 : (0 : Int) ≤ (u : Int) + (S : Int) := by omega
                  obtain ⟨R, hR⟩ : ∃ F, LS E X k (u + S) = F := ⟨_, rfl⟩
                  obtain ⟨oR, hoR⟩ : ∃ x, (getC lsB (u + S)).o = x := ⟨_, rfl⟩
                  obtain ⟨cR, hcR⟩ : ∃ x, (getC lsB (u + S)).cap = x := ⟨_, rfl⟩
                  rw [hR, hoR] at HRC HRT
                  rw [hcR] at HRC
                  rw [hR] at HRO HPP
                  clear hR hoR hcR HBD
                  obtain ⟨r0, r1⟩ := HRC.out
                  go_upto_region 29 with (fail)
                  clear r0 r1 HRC e2 hul hul0
                  obtain ⟨W5, hW5⟩ : ∃ W5, W5 = wD.alloc (.cells #[.slice oR R.pairs.length cR, .int .i64 R.cost] 62) := ⟨_, rfl⟩
                  have HB5 := Lib.hid (show Below wD.heap.size wD W5 by rw [hW5]; exact below_alloc (Below.refl _ _) _)
                  have HD5 := Lib.hid (show Blk W5 wD.heap.size 62 #[.slice oR R.pairs.length cR, .int .i64 R.cost] by rw [hW5]; exact Blk.new _ _ _)
                  rw [← hW5]
                  clear hW5
                  obtain ⟨D, hD⟩ : ∃ D, wD.heap.size = D := ⟨_, rfl⟩
                  rw [hD] at HD5 ⊢
                  clear hD
                  replace HBX := Lib.hid (HBX.out.later HB5.out)
                  replace HX0 := Lib.hid (cell_kept HB5.out HX0.out)
                  replace HP0 := Lib.hid (cell_kept HB5.out HP0.out)
                  replace HRT := Lib.hid (HRT.out.later HB5.out)
                  clear HB5
                  have hd1 := dP_pos pe px
                  have hd2 := dP_le20 pe px
                  obtain ⟨dd, hdd⟩ : ∃ d, dP pe px = d := ⟨_, rfl⟩
                  rw [hdd] at hd1 hd2 HDE HV1
                  rw [HDE.out] at HPP
                  clear hdd HDE
                  refine wp_region_B 16 (fun w'' => Below W5.heap.size W5 w'') mixed (by kernel_rfl) (below_closed W5) (Below.refl _ _).drew ?_
                  simp only [List.take_succ_cons, List.take_zero, List.drop_succ_cons, List.drop_zero]
                  intro KR hR
                  have HR := Lib.hid hR
                  clear hR
                  have HCC := Lib.hid (show ∀ w'', Below W5.heap.size W5 w'' → w''.cell? ⟨ge, fe + e * 2, none⟩ = some (.string pe.s) ∧ w''.cell? ⟨gx, fx + i * 2, none⟩ = some (.string px.s) from fun w'' hw => ⟨cell_kept hw HP0.out, cell_kept hw HX0.out⟩)
                  ((with_reducible refine wpB_move ?_ ?_); exact rfl; simp only [Act.put, List.setIfInBounds_toArray, List.set_cons_zero, List.set_cons_succ])
                  ((with_reducible refine wpB_move ?_ ?_); exact rfl; simp only [Act.put, List.setIfInBounds_toArray, List.set_cons_zero, List.set_cons_succ])
                  apply wpB_val rfl
                  · (intro w' hw'; go_simp; with_reducible rfl)
                  simp only [Act.put, List.setIfInBounds_toArray, List.set_cons_zero, List.set_cons_succ]
                  apply wpB_val rfl
                  · (intro w' hw'; go_simp; with_reducible rfl)
                  simp only [Act.put, List.setIfInBounds_toArray, List.set_cons_zero, List.set_cons_succ]
                  apply wpB_val rfl
                  · (intro w' hw'; obtain ⟨c0, c1⟩ := HCC.out w' hw'; go_simp; with_reducible rfl)
                  simp only [Act.put, List.setIfInBounds_toArray, List.set_cons_zero, List.set_cons_succ]
                  ((with_reducible refine wpB_move ?_ ?_); exact rfl; simp only [Act.put, List.setIfInBounds_toArray, List.set_cons_zero, List.set_cons_succ])
                  ((with_reducible refine wpB_move ?_ ?_); exact rfl; simp only [Act.put, List.setIfInBounds_toArray, List.set_cons_zero, List.set_cons_succ])
                  apply wpB_val rfl
                  · (intro w' hw'; go_simp; with_reducible rfl)
                  simp only [Act.put, List.setIfInBounds_toArray, List.set_cons_zero, List.set_cons_succ]
                  apply wpB_val rfl
                  · (intro w' hw'; go_simp; with_reducible rfl)
                  simp only [Act.put, List.setIfInBounds_toArray, List.set_cons_zero, List.set_cons_succ]
                  apply wpB_val rfl
                  · (intro w' hw'; obtain ⟨c0, c1⟩ := HCC.out w' hw'; go_simp; with_reducible rfl)
                  simp only [Act.put, List.setIfInBounds_toArray, List.set_cons_zero, List.set_cons_succ]
                  apply wpB_call 30 #[.string pe.s, .string px.s] rfl (v := .tuple #[.int .i64 dd, .int .i64 0])
                  · (intro w'; go_simp)
                  · exact fun w' hw' => (HV1.out ▸ RDistance_any pe.s px.s w' HZ1.out HZ2.out)
                  simp only [Act.put, List.setIfInBounds_toArray, List.set_cons_zero, List.set_cons_succ]
                  ((with_reducible refine wpB_move ?_ ?_); exact rfl; simp only [Act.put, List.setIfInBounds_toArray, List.set_cons_zero, List.set_cons_succ])
                  apply wpB_val rfl
                  · (intro w' hw'; go_simp; with_reducible rfl)
                  simp only [Act.put, List.setIfInBounds_toArray, List.set_cons_zero, List.set_cons_succ]
                  apply wpB_val rfl
                  · (intro w' hw'; go_simp; with_reducible rfl)
                  simp only [Act.put, List.setIfInBounds_toArray, List.set_cons_zero, List.set_cons_succ]
                  apply wpB_val rfl
                  · (intro w' hw'; go_simp; with_reducible rfl)
                  simp only [Act.put, List.setIfInBounds_toArray, List.set_cons_zero, List.set_cons_succ]
                  apply wpB_val rfl
                  · (intro w' hw'; go_simp; with_reducible rfl)
                  simp only [Act.put, List.setIfInBounds_toArray, List.set_cons_zero, List.set_cons_succ]
                  refine wpB_nil (HR.out _ (fun w2 hw2 => ?_))
                  clear HR HCC
                  replace HBX := Lib.hid (HBX.out.later hw2)
                  replace HD5 := Lib.hid (HD5.out.later hw2)
                  replace HRT := Lib.hid (HRT.out.later hw2)
                  clear hw2 HX0 HP0 HV1 HZ1 HZ2
                  have HVN := Lib.hid (show ∀ j, (Value.slice oN u cN).ownBlock = some j → j < w2.heap.size from fun j hj => (HBX.out.st.n.row.own.lt j hj).2)
                  have HO2 := Lib.hid (oneI2 (e : Int) (i : Int))
                  have HBXw := HBX
                  have HD5w := HD5
                  go_wp2_with (at_builtin; refine wp_append1 (news := [.int .i64 (e : Int), .int .i64 (i : Int)]) elemP (Row.nil w2 48 2) (by decide) (by decide) rfl HO2.out rfl _ _ rfl rfl rfl ?_)
                  intro vL w7 hrow7
                  have HB7 := Lib.hid hrow7.below
                  obtain ⟨gL, cL, rfl, _, _⟩ := hrow7.some_of (by decide)
                  have HR7 := Lib.hid hrow7
                  clear hrow7 HO2
                  replace HBX := Lib.hid (HBX.out.later HB7.out)
                  replace HD5 := Lib.hid (HD5.out.later HB7.out)
                  replace HRT := Lib.hid (HRT.out.later HB7.out)
                  have HPO := Lib.hid (PT_ok hE8 hX8 (show k + 1 ≤ E.length by omega) u hi)
                  obtain ⟨Pi, hPi⟩ : ∃ P, PT E X k u i = P := ⟨_, rfl⟩
                  rw [hPi] at HBX HBXw HPP HPO
                  clear hPi
                  have hR1 := HRO.out.lo
                  have hR2 := HRO.out.hi
                  have hRl := HRO.out.len
                  have HTK := Lib.hid (takeB_less ⟨(e, i) :: R.pairs, R.cost + dd⟩ Pi)
                  have HLP := Lib.hid (show 0 + 1 + R.pairs.length ≤ 1000000000 by omega)
                  have HLN := Lib.hid (show (flatT (toI R.pairs)).length = R.pairs.length * 2 by rw [flatT_len, toI_length])
                  have HLT := Lib.hid (show (toI ((e, i) :: R.pairs)).length ≤ 9000000000000000000 by rw [toI_length]; simp only [List.length_cons]; omega)
                  have hwr : IntKind.i64.wrap (R.cost + dd) = R.cost + dd := IntWalk.i64_in _ (by omega)
                  go_wp2_with fail
                  refine wp_region_maskF [4, 9, 10, 11] [true, true, true, true, false, true, true, true, true, false, false, false] (fun w'' => w''.cell? ⟨g5, 0, none⟩ = some (.slice oc Pi.pairs.length cc) ∧ w''.cell? ⟨g5, 1, none⟩ = some (.int .i64 Pi.cost) ∧ w''.cell? ⟨D, 0, none⟩ = some (.slice oR R.pairs.length cR) ∧ w''.cell? ⟨D, 1, none⟩ = some (.int .i64 R.cost)) mixed (by kernel_rfl) ?_
                  intro KR hR
                  have HR := Lib.hid hR
                  clear hR
                  simp only [marked]
                  apply wpM_val rfl
                  · (intro w' hw'; obtain ⟨c0, c1, c2, c3⟩ := hw'; go_simp; with_reducible rfl)
                  simp only [Act.put, List.setIfInBounds_toArray, List.set_cons_zero, List.set_cons_succ]
                  apply wpM_val rfl
                  · (intro w' hw'; go_simp; with_reducible rfl)
                  simp only [Act.put, List.setIfInBounds_toArray, List.set_cons_zero, List.set_cons_succ]
                  apply wpM_val rfl
                  · (intro w' hw'; go_simp; with_reducible rfl)
                  simp only [Act.put, List.setIfInBounds_toArray, List.set_cons_zero, List.set_cons_succ]
                  apply wpM_val rfl
                  · (intro w' hw'; obtain ⟨c0, c1, c2, c3⟩ := hw'; go_simp; with_reducible rfl)
                  simp only [Act.put, List.setIfInBounds_toArray, List.set_cons_zero, List.set_cons_succ]
                  apply wpM_val rfl
                  · (intro w' hw'; go_simp; with_reducible rfl)
                  simp only [Act.put, List.setIfInBounds_toArray, List.set_cons_zero, List.set_cons_succ]
                  apply wpM_val rfl
                  · (intro w' hw'; obtain ⟨c0, c1, c2, c3⟩ := hw'; go_simp; with_reducible rfl)
                  simp only [Act.put, List.setIfInBounds_toArray, List.set_cons_zero, List.set_cons_succ]
                  apply wpM_val rfl
                  · (intro w' hw'; go_simp; with_reducible rfl)
                  simp only [Act.put, List.setIfInBounds_toArray, List.set_cons_zero, List.set_cons_succ]
                  apply wpM_val rfl
                  · (intro w' hw'; go_simp; with_reducible rfl)
                  simp only [Act.put, List.setIfInBounds_toArray, List.set_cons_zero, List.set_cons_succ]
                  refine wpM_nil (HR.out _ ?_)
                  clear HR hwr
                  have HBd := Lib.hid (show Below w7.heap.size w7 w7.drew from (Below.refl _ _).drew)
                  replace HBX := Lib.hid (HBX.out.later HBd.out)
                  replace HD5 := Lib.hid (HD5.out.later HBd.out)
                  replace HRT := Lib.hid (HRT.out.later HBd.out)
                  replace HR7 := Lib.hid (HR7.out.later HBd.out)
                  generalize w7.drew = wd at HBX HD5 HRT HR7 HBd ⊢
                  refine ⟨⟨HBX.out.box.cell 0, HBX.out.box.cell 1, HD5.out.cell 0, HD5.out.cell 1⟩, fun c hc hfree => ?_⟩
                  simp only [List.mem_cons, List.not_mem_nil, or_false] at hc
                  rcases hc with rfl | rfl | rfl | rfl
                  rotate_left
                  · exact Bool.noConfusion (hfree.symm.trans (by kernel_rfl) : true = false)
                  · exact Bool.noConfusion (hfree.symm.trans (by kernel_rfl) : true = false)
                  · exact Bool.noConfusion (hfree.symm.trans (by kernel_rfl) : true = false)
                  obtain ⟨vP, w8, hrun, hrow8⟩ := run_appendS37 (P := Tryd.prog) (tt := 23) (ty := 23) (k := R.pairs.length) (c := cR) elemP HR7.out HLP.out (by decide) HLN.out (flatT_one _) HRT.out.cells
                  refine ⟨_, rfl, rfl, stepF_val (v := vP) (w' := w8) (run_exec_appendR rfl rfl rfl hrun) ?_⟩
                  simp only [List.getElem_toArray, List.getElem_cons_zero, List.getElem_cons_succ, Act.put, List.setIfInBounds_toArray, List.set_cons_zero, List.set_cons_succ]
                  replace HBX := Lib.hid (HBXw.out.later hrow8.below)
                  replace HD5 := Lib.hid (HD5w.out.later hrow8.below)
                  have HR8 := Lib.hid (hrow8.cast (show 0 + 1 + R.pairs.length = R.pairs.length + 1 by omega) (show _ = flatT (toI ((e, i) :: R.pairs)) from rfl))
                  clear hrun hrow8 HRT HR7 HBd HBXw HD5w
                  obtain ⟨gP, cP, rfl, hgP, hcP⟩ := HR8.out.some_of (by omega)
                  have HGD := Lib.hid (show GoodC w8 ⟨⟨(e, i) :: R.pairs, R.cost + dd⟩, some ⟨gP, 0, none⟩, cP⟩ from ⟨Row.twos HR8.out rfl, hcP⟩)
                  have HAD := Lib.hid (show ApC (.slice oN u cN) ⟨⟨(e, i) :: R.pairs, R.cost + dd⟩, some ⟨gP, 0, none⟩, cP⟩ from fun p hp _ e2 => by
                    injection hp with hp
                    subst hp
                    have := HVN.out _ e2
                    simp only at this
                    omega)
                  clear hcP hgP HR8
                  refine ⟨⟨HBX.out.box.cell 0, HBX.out.box.cell 1, HD5.out.cell 0, HD5.out.cell 1⟩, fun c hc hfree => ?_⟩
                  obtain hc : c = 9 ∨ c = 10 ∨ c = 11 := by simpa [show ([4, 9, 10, 11] : List Nat).erase 4 = [9, 10, 11] from rfl] using hc
                  rcases hc with rfl | rfl | rfl
                  rotate_left
                  · exact Bool.noConfusion (hfree.symm.trans (by kernel_rfl) : true = false)
                  · exact Bool.noConfusion (hfree.symm.trans (by kernel_rfl) : true = false)
                  refine ⟨_, rfl, rfl, stepF_val (v := fdV (some ⟨gP, 0, none⟩) (R.pairs.length + 1) cP (R.cost + dd)) (w' := w8) (by go_simp) ?_⟩
                  simp only [List.getElem_toArray, List.getElem_cons_zero, List.getElem_cons_succ, Act.put, List.setIfInBounds_toArray, List.set_cons_zero, List.set_cons_succ]
                  refine ⟨⟨HBX.out.box.cell 0, HBX.out.box.cell 1, HD5.out.cell 0, HD5.out.cell 1⟩, fun c hc hfree => ?_⟩
                  obtain hc : c = 10 ∨ c = 11 := by simpa [show (([4, 9, 10, 11] : List Nat).erase 4).erase 9 = [10, 11] from rfl] using hc
                  rcases hc with rfl | rfl
                  rotate_left
                  · exact Bool.noConfusion (hfree.symm.trans (by kernel_rfl) : true = false)
                  refine ⟨_, rfl, rfl, stepF_call (f := 31) (args := #[fdV oc Pi.pairs.length cc Pi.cost, fdV (some ⟨gP, 0, none⟩) (R.pairs.length + 1) cP (R.cost + dd)]) (w' := w8) (by go_simp) ?_⟩
                  have HCB := better_any oc (some ⟨gP, 0, none⟩) cc cP (toI Pi.pairs) (toI ((e, i) :: R.pairs)) Pi.cost (R.cost + dd) w8 HBX.out.good.tw HGD.out.tw HLT.out
                  rw [toI_length, toI_length, List.length_cons, HTK.out] at HCB
                  refine HCB.mono ?_
                  rintro _ w9 ⟨rfl, hb9⟩
                  refine ⟨_, rfl, ?_⟩
                  simp only [List.getElem_toArray, List.getElem_cons_zero, List.getElem_cons_succ, Act.put, List.setIfInBounds_toArray, List.set_cons_zero, List.set_cons_succ]
                  replace HBX := Lib.hid (HBX.out.later hb9)
                  replace HD5 := Lib.hid (HD5.out.later hb9)
                  replace HGD := Lib.hid (HGD.out.later hb9)
                  clear hb9 HCB
                  refine ⟨⟨HBX.out.box.cell 0, HBX.out.box.cell 1, HD5.out.cell 0, HD5.out.cell 1⟩, fun c hc hfree => ?_⟩
                  obtain rfl : c = 11 := by simpa [show ((([4, 9, 10, 11] : List Nat).erase 4).erase 9).erase 10 = [11] from rfl] using hc
                  have q0 : w9.cell? ⟨g5, 0, none⟩ = some (.slice oc Pi.pairs.length cc) := HBX.out.box.cell 0
                  have q1 : w9.cell? ⟨g5, 1, none⟩ = some (.int .i64 Pi.cost) := HBX.out.box.cell 1
                  have f0 := HBX.out.box.frozen 0
                  have f1 := HBX.out.box.frozen 1
                  have HPP2 := HPP.out
                  obtain ⟨b, hb⟩ : ∃ b, Fd.less ⟨(e, i) :: R.pairs, R.cost + dd⟩ Pi = b := ⟨_, rfl⟩
                  rw [hb] at HPP2 ⊢
                  clear HPP hb HTK
                  cases b with
                  | true =>
                    have HNX := Lib.hid (show Bx37 W3 ((w9.setCell ⟨g5, 0, none⟩ (.slice (some ⟨gP, 0, none⟩) (R.pairs.length + 1) cP)).setCell ⟨g5, 1, none⟩ (.int .i64 (R.cost + dd))) (.slice (some ⟨gB, 0, none⟩) t cB) (.slice oN u cN) t u (fun u => LS E X k u) (fun u => LS E X (k + 1) u) lsB lsN g5 ⟨PT E X k u (i + 1), some ⟨gP, 0, none⟩, cP⟩ from by rw [show PT E X k u (i + 1) = ⟨(e, i) :: R.pairs, R.cost + dd⟩ from HPP2]; exact HBX.out.set (d := ⟨⟨(e, i) :: R.pairs, R.cost + dd⟩, some ⟨gP, 0, none⟩, cP⟩) HGD.out HAD.out)
                    refine ⟨_, rfl, rfl, stepF_skip (w' := (w9.setCell ⟨g5, 0, none⟩ (.slice (some ⟨gP, 0, none⟩) (R.pairs.length + 1) cP)).setCell ⟨g5, 1, none⟩ (.int .i64 (R.cost + dd))) (by go_simp) ?_⟩
                    simp only [List.getElem_toArray, List.getElem_cons_zero, List.getElem_cons_succ, Act.put]
                    refine wpF_end ?_
                    clear q0 q1 f0 f1 HPP2
                    go_wp2
                    go_roundw
                    case rel => exact ⟨i + 1, _, _, hi2, by go_num, HNX.out⟩
                    case measure => simp [intOf]; omega
                  | false =>
                    have HNX := Lib.hid (show Bx37 W3 ((w9.setCell ⟨g5, 0, none⟩ (.slice oc Pi.pairs.length cc)).setCell ⟨g5, 1, none⟩ (.int .i64 Pi.cost)) (.slice (some ⟨gB, 0, none⟩) t cB) (.slice oN u cN) t u (fun u => LS E X k u) (fun u => LS E X (k + 1) u) lsB lsN g5 ⟨PT E X k u (i + 1), oc, cc⟩ from by rw [show PT E X k u (i + 1) = Pi from HPP2]; exact HBX.out.set (d := ⟨Pi, oc, cc⟩) HBX.out.good HBX.out.ap)
                    refine ⟨_, rfl, rfl, stepF_skip (w' := (w9.setCell ⟨g5, 0, none⟩ (.slice oc Pi.pairs.length cc)).setCell ⟨g5, 1, none⟩ (.int .i64 Pi.cost)) (by go_simp) ?_⟩
                    simp only [List.getElem_toArray, List.getElem_cons_zero, List.getElem_cons_succ, Act.put]
                    refine wpF_end ?_
                    clear q0 q1 f0 f1 HPP2
                    go_wp2
                    go_roundw
                    case rel => exact ⟨i + 1, _, _, hi2, by go_num, HNX.out⟩
                    case measure => simp [intOf]; omega
                · obtain rfl : i = X.length := by omega
                  have HLL := Lib.hid (LS_last E X k u)
                  obtain ⟨Pi, hPi⟩ : ∃ P, PT E X k u X.length = P := ⟨_, rfl⟩
                  rw [hPi] at HBX HLL
                  clear hPi
                  have q0 : wC.cell? ⟨g5, 0, none⟩ = some (.slice oc Pi.pairs.length cc) := HBX.out.box.cell 0
                  have q1 : wC.cell? ⟨g5, 1, none⟩ = some (.int .i64 Pi.cost) := HBX.out.box.cell 1
                  have HN1 := Lib.hid (show u + 1 ≤ 1000000000 by omega)
                  have HOM := Lib.hid (oneC oc Pi.pairs.length cc Pi.cost)
                  go_wp2_with (at_builtin; refine wp_append1R (news := [.slice oc Pi.pairs.length cc, .int .i64 Pi.cost]) elemC HBX.out.st.n.row HN1.out (by decide) rfl HOM.out rfl _ _ rfl rfl rfl rfl ?_)
                  clear q0 q1 HOM HN1
                  intro v3 w3 hrow3 hgr hat
                  have HS3 := Lib.hid (HBX.out.st.push (a := ⟨Pi, oc, cc⟩) (below_alloc (Below.refl _ _) _) (HBX.out.good.later (below_alloc (Below.refl _ _) _)) HBX.out.ap HLL.out.symm hrow3 hgr (by rw [World.size_alloc]; exact hat))
                  clear hrow3 hgr hat HBX
                  go_wp2
                  go_roundw
                  case rel => exact ⟨u + 1, _, hu2, by go_num, HS3.out⟩
                  case measure => simp [intOf]; omega
            · obtain rfl : u = t := by omega
              go_wp2
              go_roundw
              case rel => exact ⟨k + 1, lsN, by omega, by rw [← HVAL.out], HST.out.n⟩
              case measure => simp [intOf]
        · obtain rfl : k = E.length := by omega
          have HBC := Lib.hid (show wA2.cell? ⟨gB, 0, none⟩ = some (.slice (getC lsB 0).o (LS E X E.length 0).pairs.length (getC lsB 0).cap) ∧ wA2.cell? ⟨gB, 1, none⟩ = some (.int .i64 (LS E X E.length 0).cost) from by simpa using HTB2.out.cell2 (i := 0) HM1.out)
          have HGC := Lib.hid (show Twos wA2 (getC lsB 0).o (toI (LS E X E.length 0).pairs) from (HTB2.out.at (i := 0) HM1.out).tw)
          have HBF := Lib.hid (below_step HB3.out HTB2.out.row.below)
          have HVV := Lib.hid (show (validP E && validP X) = true by rw [HVE.out, HVX.out]; rfl)
          obtain ⟨Fb, hFb⟩ : ∃ F, LS E X E.length 0 = F := ⟨_, rfl⟩
          obtain ⟨oF, hoF⟩ : ∃ x, (getC lsB 0).o = x := ⟨_, rfl⟩
          obtain ⟨cF, hcF⟩ : ∃ x, (getC lsB 0).cap = x := ⟨_, rfl⟩
          rw [hFb, hoF] at HBC HGC
          rw [hcF] at HBC
          have HBE := Lib.hid (show best E X = Fb from hFb)
          clear hFb hoF hcF HTB2
          obtain ⟨b0, b1⟩ := HBC.out
          have z3 : (0 : Int) < (t : Int) := by have := HM1.out; omega
          rw [show (E.length : Int) - 1 - (E.length : Int) = -1 by omega]
          go_wp2_with fail
          go_quiet (fail)
          go_wp2
          go_ret3
          have HBF2 := below_step HBF.out (below_drewN (Below.refl wA2.heap.size wA2) nq)
          have HGF := HGC.out.later (below_drewN (Below.refl wA2.heap.size wA2) nq)
          rw [← HBE.out] at HGF ⊢
          exact ⟨HBF2, .inl ⟨HVV.out, _, _, rfl, HGF⟩⟩

end Go.Proofs.YtmcodendnpjlaaaDoor
