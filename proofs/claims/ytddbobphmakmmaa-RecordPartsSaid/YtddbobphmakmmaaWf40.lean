/- Chapter 40: chain.inOrder and its iterator. -/
import Derived.Test.YtddbobphmakmmaaWe40
import Derived.Test.YtddbobphmakmmaaIter
import Derived.WalkMore
namespace Go.Proofs.Ytddbobphmakmmaa
open Go.RowKit Go.Shelf
attribute [local go_sem] Oper.semAt_some

def enum (l : List Rd) (k : Nat) : List (Int × Rd) := (List.range k).map (fun i : Nat => ((i : Int), getR l i))
theorem enum_zero (l : List Rd) : enum l 0 = [] := rfl
theorem enum_succ (l : List Rd) (k : Nat) : enum l (k + 1) = enum l k ++ [((k : Int), getR l k)] := by simp [enum, List.range_succ]
theorem enum_length (l : List Rd) (k : Nat) : (enum l k).length = k := by simp [enum]

@[reducible] def encs (p : Int × Rd) : Array Value := #[.int .i64 p.1, rdV p.2]

/-- What a round keeps: what lay below n₀, and the box of the list. -/
def Kpt (n₀ q : Nat) (W W' : World) : Prop := Below n₀ W W' ∧ W'.heap[q]? = W.heap[q]?
theorem Kpt.trans {n₀ q : Nat} {A B C : World} (h : Kpt n₀ q A B) (k : Kpt n₀ q B C) : Kpt n₀ q A C := ⟨h.1.trans k.1, k.2.trans h.2⟩

def Sdone (l : List Rd) (xs : List (Int × Rd)) : Prop := ∃ k, k ≤ l.length ∧ xs = enum l k ∧ (∀ i, i < k → okAt l i = true) ∧ (k = l.length ∨ okAt l k = false)
def Sstop (l : List Rd) (pre : List (Int × Rd)) : Prop := ∃ k, k < l.length ∧ pre = enum l (k + 1) ∧ (∀ i, i ≤ k → okAt l i = true)

theorem Rds.low {w w' : World} {o : Option Addr} {l : List Rd} {n₀ : Nat} (h : Rds w o l) (hlow : ∀ b off, o = some ⟨b, off, none⟩ → 0 < l.length → b < n₀) (hb : Below n₀ w w') : Rds w' o l := fun i hi => by
  obtain ⟨b, off, ho, hc⟩ := h i hi
  have hlt := hlow b off ho (by omega)
  exact ⟨b, off, ho, (hb.cell (p := ⟨b, _, none⟩) hlt).trans hc.1, (hb.cell (p := ⟨b, _, none⟩) hlt).trans hc.2.1, (hb.cell (p := ⟨b, _, none⟩) hlt).trans hc.2.2.1, (hb.cell (p := ⟨b, _, none⟩) hlt).trans hc.2.2.2.1, (hb.cell (p := ⟨b, _, none⟩) hlt).trans hc.2.2.2.2⟩
theorem Rds.lt {w : World} {o : Option Addr} {l : List Rd} (h : Rds w o l) : ∀ b off, o = some ⟨b, off, none⟩ → 0 < l.length → b < w.heap.size := fun b off ho hl => by
  obtain ⟨b', off', ho', hc⟩ := h 0 hl
  rw [ho] at ho'
  injection ho' with ho'
  injection ho' with h1 h2
  subst h1
  exact cell_lt hc.1

theorem grownNone {W W' : World} (h : Below W.heap.size W W') : W.grownBy W' none := ⟨h.os, h.tape, h.output, h.size, fun k hk _ => h.block k hk⟩

/-- The state at the head of a round of the iterator. -/
structure ItSt (W0 wr : World) (q : Nat) (o : Option Addr) (cap : Nat) (l : List Rd) (k : Nat) (J : List (Int × Rd) → World → Prop) : Prop where
  ok : ∀ j, j < k → okAt l j = true
  j : J (enum l k) wr
  box : Blk wr q 26 #[.slice o l.length cap]
  rds : Rds wr o l
  size : W0.heap.size ≤ wr.heap.size

theorem ItSt.later {W0 wr w' : World} {q : Nat} {o : Option Addr} {cap : Nat} {l : List Rd} {k : Nat} {J : List (Int × Rd) → World → Prop} (h : ItSt W0 wr q o cap l k J) (hJ : AbidesFrom W0.heap.size J) (hb : Below wr.heap.size wr w') : ItSt W0 w' q o cap l k J :=
  ⟨h.ok, hJ _ _ _ none h.j (grownNone hb) (fun r e => by cases e), h.box.later hb, h.rds.later hb, Nat.le_trans h.size hb.size⟩

set_option maxRecDepth 100000 in
set_option maxHeartbeats 8000000 in
theorem inOrder1_in (n lp q n₀ : Nat) (o : Option Addr) (cap : Nat) (l : List Rd) (J Jx : List (Int × Rd) → World → Prop) (hl : l.length ≤ 9223372036854775807) (hlow : ∀ b off, o = some ⟨b, off, none⟩ → 0 < l.length → b < n₀)
    (hY : ∀ pre x W, J pre W → pre.length < l.length → YieldAt Fence.wide (n - 1) Try.prog lp (encs x) W fun e W' => (e = .returned (.bool true) ∧ J (pre ++ [x]) W' ∧ Kpt n₀ q W W') ∨ (e = .returned (.bool false) ∧ Jx (pre ++ [x]) W'))
    (W : World) (hJ : AbidesFrom W.heap.size J) (hJx : AbidesFrom W.heap.size Jx) (hq : Blk W q 26 #[.slice o l.length cap]) (hr : Rds W o l) (h0 : J [] W) :
    CallsIn Fence.wide n Try.prog 32 #[.func (.yield lp) #[] #[], .pointer (some ⟨q, 0, none⟩)] W fun e W' => (∃ v, e = .returned v) ∧ ((∃ xs, Sdone l xs ∧ J xs W') ∨ (∃ pre, Sstop l pre ∧ Jx pre W')) := by
  have HS0 : Hid (ItSt W W q o cap l 0 J) := Lib.hid ⟨fun j hj => absurd hj (by omega), h0, hq, hr, Nat.le_refl _⟩
  have HY := Lib.hid hY
  have HJ := Lib.hid hJ
  have HJX := Lib.hid hJx
  have HLOW := Lib.hid hlow
  have c0 := hq.cell 0
  simp at c0
  clear hY hJ hJx hq hr h0 hlow
  refine callsIn_of_wp Try.func32 rfl trivial ?_ rfl
  simp only [Try.ntmps32, List.size_toArray, List.length_cons, List.length_nil, Nat.reduceAdd, Nat.reduceSub, Array.replicate_succ, Array.replicate_zero, List.push_toArray, List.append_toArray, List.nil_append, List.cons_append]
  refine wpIn_wide.2 (wp_scope_straight ((wpIn_wide (n := n)).1 ?_))
  refine wpIn_seq (wpIn_label ?_)
  simp only [Exit.then]
  gi_wp2
  clear c0
  gi_loopw [7] (fun i wr => ∃ k : Nat, k ≤ l.length ∧ i = .int .i64 k ∧ ItSt W wr q o cap l k J) (fun i _ => l.length - (intOf i).toNat)
  case atStart => exact ⟨0, Nat.zero_le _, rfl, HS0.out⟩
  case round =>
    obtain ⟨k, hk, rfl, hst⟩ := hrel
    have HST := Lib.hid hst
    clear hst HS0
    by_cases hlt : k < l.length
    · obtain ⟨b, off, hbo, hx⟩ := HST.out.rds k hlt
      have HOK := Lib.hid (okAt_get hlt)
      obtain ⟨x, hxe⟩ : ∃ x, getR l k = x := ⟨_, rfl⟩
      rw [hxe] at hx HOK
      obtain ⟨d0, d1, d2, d3, d4⟩ := hx
      have HXE := Lib.hid hxe
      have HBO := Lib.hid hbo
      clear hxe
      subst hbo
      have y1 : (0 : Int) ≤ (k : Int) := by omega
      have y2 : (k : Int) < (l.length : Int) := by omega
      have HRB := Lib.hid (RdB.new wr x)
      gi_wp2_with fail
      refine inCall (valid_any x _) ?_
      rintro e w1 ⟨rfl, hb⟩
      replace HST := Lib.hid ((HST.out.later HJ.out (below_alloc (Below.refl _ _) _)).later HJ.out hb)
      replace HRB := Lib.hid (HRB.out.later hb)
      clear hb d0 d1 d2 d3 d4
      obtain ⟨v, hv⟩ : ∃ v, validR x = v := ⟨_, rfl⟩
      rw [hv]
      unfold okN at HOK
      rw [hv] at HOK
      clear hv
      have hstop : okAt l k = false → ∀ w' : World, ItSt W w' q (some ⟨b, off, none⟩) cap l k J → ((∃ v, Ending.returned (.tuple #[]) = .returned v) ∧ ((∃ xs, Sdone l xs ∧ J xs w') ∨ (∃ pre, Sstop l pre ∧ Jx pre w'))) :=
        fun hno w' h => ⟨⟨_, rfl⟩, .inl ⟨_, ⟨k, hk, rfl, h.ok, .inr hno⟩, h.j⟩⟩
      have HSTOP := Lib.hid hstop
      clear hstop
      obtain ⟨c0, c1, c2, c3, c4⟩ := HRB.out.cells
      cases v with
      | false =>
        gi_wp2
        simp only [Exit.noGoto_normal]
        go_end0
        exact HSTOP.out (by rw [HOK.out]; simp) _ HST.out
      | true =>
        by_cases hn : x.n = (k : Int) + 1
        · have hnb : (x.n == (k : Int) + 1) = true := by simpa using hn
          have e1 : IntKind.i64.wrap ((k : Int) + 1) = (k : Int) + 1 := IntWalk.i64_in _ (by omega)
          have HN := Lib.hid hn
          clear hn

          gi_wp2
          refine wpIn_wide.2 ?_
          by_cases h0 : k = 0
          · have h0b : decide (0 < k) = false := by simp; omega
            have HYES : Hid (okAt l k = true) := Lib.hid (by rw [HOK.out]; simp [HN.out, prevAt, h0])
            clear h0
            refine wp_region_B 21 (fun w'' => Below w1.heap.size w1 w'') mixed (by kernel_rfl) (below_closed w1) (Below.refl _ _).drew ?_
            simp only [List.take_succ_cons, List.take_zero, List.drop_succ_cons, List.drop_zero]
            intro KR hR
            have HR := Lib.hid hR
            clear hR
            have HCC := Lib.hid (show ∀ w'', Below w1.heap.size w1 w'' → w''.cell? ⟨wr.heap.size, 0, none⟩ = some (.int .i64 x.s) ∧ w''.cell? ⟨wr.heap.size, 1, none⟩ = some (.int .i64 x.n) ∧ w''.cell? ⟨wr.heap.size, 2, none⟩ = some (.int .i64 x.m) ∧ w''.cell? ⟨wr.heap.size, 3, none⟩ = some (.int .i64 x.r) ∧ w''.cell? ⟨wr.heap.size, 4, none⟩ = some (.int .u64 x.k) from fun w'' hw => ⟨(HRB.out.later hw).cells.1, (HRB.out.later hw).cells.2.1, (HRB.out.later hw).cells.2.2.1, (HRB.out.later hw).cells.2.2.2.1, (HRB.out.later hw).cells.2.2.2.2⟩)
            repeat (first
              | ((with_reducible refine wpB_move ?_ ?_); exact rfl; simp only [Act.put, List.setIfInBounds_toArray, List.set_cons_zero, List.set_cons_succ])
              | ((with_reducible refine wpB_skip ?_ ?_); exact rfl; simp only [Act.put, List.setIfInBounds_toArray, List.set_cons_zero, List.set_cons_succ])
              | (apply wpB_val rfl
                 · (intro w' hw'; obtain ⟨c0, c1, c2, c3, c4⟩ := HCC.out w' hw'; go_simp; with_reducible rfl)
                 simp only [Act.put, List.setIfInBounds_toArray, List.set_cons_zero, List.set_cons_succ]))
            refine wpB_nil (HR.out _ (fun w2 hw2 => ?_))
            clear HR HCC
            replace HST := Lib.hid (HST.out.later HJ.out hw2)
            replace HRB := Lib.hid (HRB.out.later hw2)
            clear hw2 c0 c1 c2 c3 c4
            refine wpList_nil ?_
            obtain ⟨fn, tmps, assign, body, hy, hR⟩ := HY.out (enum l k) ((k : Int), x) w2 HST.out.j (by rw [enum_length]; exact hlt)
            dsimp only [encs] at hy
            have HSN : Hid (enum l (k + 1) = enum l k ++ [((k : Int), x)]) := Lib.hid (by rw [enum_succ, HXE.out])
            have HRR := Lib.hid hR
            clear hR
            obtain ⟨c0, c1, c2, c3, c4⟩ := HRB.out.cells
            gi_wp2
            refine ⟨fun hd => by simp [Fence.wide] at hd, HRR.out.mono ?_⟩
            rintro e W3 (⟨rfl, hJ3, hk3⟩ | ⟨rfl, hJx3⟩)
            · have HS3 : Hid (ItSt W W3 q (some ⟨b, off, none⟩) cap l (k + 1) J) := Lib.hid ⟨fun j hj => by
                  rcases Nat.lt_or_eq_of_le (Nat.le_of_lt_succ hj) with h | rfl
                  · exact HST.out.ok j h
                  · exact HYES.out, by rw [HSN.out]; exact hJ3, hk3.2.trans HST.out.box, HST.out.rds.low HLOW.out hk3.1, Nat.le_trans HST.out.size hk3.1.size⟩
              clear hJ3 hk3 hy HRR c0 c1 c2 c3 c4
              gi_wp2
              go_roundw
              case rel => exact ⟨k + 1, by omega, by go_num, HS3.out⟩
              case measure => simp [intOf]; omega
            · have HX3 : Hid (Jx (enum l (k + 1)) W3) := Lib.hid (by rw [HSN.out]; exact hJx3)
              clear hJx3 hy HRR c0 c1 c2 c3 c4
              gi_wp2
              (try simp only [Exit.noGoto_ret])
              refine bodyPost_ret (results_none rfl _ _ _) rfl ?_
              exact ⟨⟨_, rfl⟩, .inr ⟨_, ⟨k, hlt, rfl, fun i hi => by rcases Nat.lt_or_eq_of_le hi with h | rfl; exact HST.out.ok i h; exact HYES.out⟩, HX3.out⟩⟩
          · have h0b : decide (0 < k) = true := by simp; omega
            obtain ⟨b2, off2, hbo2, hy1⟩ := HST.out.rds (k - 1) (by omega)
            injection hbo2 with hbo2
            injection hbo2 with hb1 ho1
            subst hb1 ho1
            rw [prevAt_pos (by omega) hlt] at HOK
            obtain ⟨y, hye⟩ : ∃ y, getR l (k - 1) = y := ⟨_, rfl⟩
            rw [hye] at hy1 HOK
            have HY1 := Lib.hid hy1
            have e2 : IntKind.i64.wrap ((k : Int) - 1) = ((k - 1 : Nat) : Int) := (IntWalk.i64_in _ (by omega)).trans (by omega)
            have y3 : (0 : Int) ≤ ((k - 1 : Nat) : Int) := by omega
            have y4 : ((k - 1 : Nat) : Int) < (l.length : Int) := by omega
            obtain ⟨j, hj⟩ : ∃ j, k - 1 = j := ⟨_, rfl⟩
            rw [hj] at e2 y3 y4 HY1
            clear hy1 hye hj h0
            have HO := Lib.hid (fun w => isOld_any y x w)
            have HLA := Lib.hid (fun w => isLater_any y x w)
            obtain ⟨old, ho⟩ : ∃ o, oldR y x = o := ⟨_, rfl⟩
            obtain ⟨lat, hla⟩ : ∃ o, laterR y x = o := ⟨_, rfl⟩
            dsimp only at HOK
            rw [ho] at HO HOK
            rw [hla] at HLA HOK
            clear ho hla
            cases old with
            | true =>
              have HNO : Hid (okAt l k = false) := Lib.hid (by rw [HOK.out]; simp)
              refine wp_region_B 21 (fun w'' => Below w1.heap.size w1 w'') mixed (by kernel_rfl) (below_closed w1) (Below.refl _ _).drew ?_
              simp only [List.take_succ_cons, List.take_zero, List.drop_succ_cons, List.drop_zero]
              intro KR hR
              have HR := Lib.hid hR
              clear hR
              have HCC := Lib.hid (show ∀ w'', Below w1.heap.size w1 w'' → w''.cell? ⟨wr.heap.size, 0, none⟩ = some (.int .i64 x.s) ∧ w''.cell? ⟨wr.heap.size, 1, none⟩ = some (.int .i64 x.n) ∧ w''.cell? ⟨wr.heap.size, 2, none⟩ = some (.int .i64 x.m) ∧ w''.cell? ⟨wr.heap.size, 3, none⟩ = some (.int .i64 x.r) ∧ w''.cell? ⟨wr.heap.size, 4, none⟩ = some (.int .u64 x.k) ∧ w''.cell? ⟨b, off + j * 5, none⟩ = some (.int .i64 y.s) ∧ w''.cell? ⟨b, off + j * 5 + 1, none⟩ = some (.int .i64 y.n) ∧ w''.cell? ⟨b, off + j * 5 + 2, none⟩ = some (.int .i64 y.m) ∧ w''.cell? ⟨b, off + j * 5 + 3, none⟩ = some (.int .i64 y.r) ∧ w''.cell? ⟨b, off + j * 5 + 4, none⟩ = some (.int .u64 y.k) ∧ w''.cell? ⟨q, 0, none⟩ = some (.slice (some ⟨b, off, none⟩) l.length cap) from fun w'' hw => ⟨(HRB.out.later hw).cells.1, (HRB.out.later hw).cells.2.1, (HRB.out.later hw).cells.2.2.1, (HRB.out.later hw).cells.2.2.2.1, (HRB.out.later hw).cells.2.2.2.2, (HY1.out.later hw).1, (HY1.out.later hw).2.1, (HY1.out.later hw).2.2.1, (HY1.out.later hw).2.2.2.1, (HY1.out.later hw).2.2.2.2, (HST.out.box.later hw).cell 0⟩)
              repeat (first
                | ((with_reducible refine wpB_move ?_ ?_); exact rfl; simp only [Act.put, List.setIfInBounds_toArray, List.set_cons_zero, List.set_cons_succ])
                | ((with_reducible refine wpB_skip ?_ ?_); exact rfl; simp only [Act.put, List.setIfInBounds_toArray, List.set_cons_zero, List.set_cons_succ])
                | (apply wpB_call 34 #[rdV y, rdV x] rfl (v := .bool true)
                   · (intro w'; go_simp)
                   · exact fun w' hw' => HO.out w'
                   simp only [Act.put, List.setIfInBounds_toArray, List.set_cons_zero, List.set_cons_succ])
                | (apply wpB_val rfl
                   · (intro w' hw'; obtain ⟨c0, c1, c2, c3, c4, c5, c6, c7, c8, c9, c10⟩ := HCC.out w' hw'; go_simp; with_reducible rfl)
                   simp only [Act.put, List.setIfInBounds_toArray, List.set_cons_zero, List.set_cons_succ]))
              refine wpB_nil (HR.out _ (fun w2 hw2 => ?_))
              clear HR HCC
              replace HST := Lib.hid (HST.out.later HJ.out hw2)
              replace HRB := Lib.hid (HRB.out.later hw2)
              clear hw2 c0 c1 c2 c3 c4
              refine wpList_nil ?_
              gi_wp2
              (try simp only [Exit.noGoto_normal])
              go_end0
              exact HSTOP.out HNO.out _ HST.out
            | false =>
              cases lat with
              | true =>
                have HNO : Hid (okAt l k = false) := Lib.hid (by rw [HOK.out]; simp)
                refine wp_region_B 21 (fun w'' => Below w1.heap.size w1 w'') mixed (by kernel_rfl) (below_closed w1) (Below.refl _ _).drew ?_
                simp only [List.take_succ_cons, List.take_zero, List.drop_succ_cons, List.drop_zero]
                intro KR hR
                have HR := Lib.hid hR
                clear hR
                have HCC := Lib.hid (show ∀ w'', Below w1.heap.size w1 w'' → w''.cell? ⟨wr.heap.size, 0, none⟩ = some (.int .i64 x.s) ∧ w''.cell? ⟨wr.heap.size, 1, none⟩ = some (.int .i64 x.n) ∧ w''.cell? ⟨wr.heap.size, 2, none⟩ = some (.int .i64 x.m) ∧ w''.cell? ⟨wr.heap.size, 3, none⟩ = some (.int .i64 x.r) ∧ w''.cell? ⟨wr.heap.size, 4, none⟩ = some (.int .u64 x.k) ∧ w''.cell? ⟨b, off + j * 5, none⟩ = some (.int .i64 y.s) ∧ w''.cell? ⟨b, off + j * 5 + 1, none⟩ = some (.int .i64 y.n) ∧ w''.cell? ⟨b, off + j * 5 + 2, none⟩ = some (.int .i64 y.m) ∧ w''.cell? ⟨b, off + j * 5 + 3, none⟩ = some (.int .i64 y.r) ∧ w''.cell? ⟨b, off + j * 5 + 4, none⟩ = some (.int .u64 y.k) ∧ w''.cell? ⟨q, 0, none⟩ = some (.slice (some ⟨b, off, none⟩) l.length cap) from fun w'' hw => ⟨(HRB.out.later hw).cells.1, (HRB.out.later hw).cells.2.1, (HRB.out.later hw).cells.2.2.1, (HRB.out.later hw).cells.2.2.2.1, (HRB.out.later hw).cells.2.2.2.2, (HY1.out.later hw).1, (HY1.out.later hw).2.1, (HY1.out.later hw).2.2.1, (HY1.out.later hw).2.2.2.1, (HY1.out.later hw).2.2.2.2, (HST.out.box.later hw).cell 0⟩)
                repeat (first
                  | ((with_reducible refine wpB_move ?_ ?_); exact rfl; simp only [Act.put, List.setIfInBounds_toArray, List.set_cons_zero, List.set_cons_succ])
                  | ((with_reducible refine wpB_skip ?_ ?_); exact rfl; simp only [Act.put, List.setIfInBounds_toArray, List.set_cons_zero, List.set_cons_succ])
                  | (apply wpB_call 34 #[rdV y, rdV x] rfl (v := .bool false)
                     · (intro w'; go_simp)
                     · exact fun w' hw' => HO.out w'
                     simp only [Act.put, List.setIfInBounds_toArray, List.set_cons_zero, List.set_cons_succ])
                  | (apply wpB_call 35 #[rdV y, rdV x] rfl (v := .bool true)
                     · (intro w'; go_simp)
                     · exact fun w' hw' => HLA.out w'
                     simp only [Act.put, List.setIfInBounds_toArray, List.set_cons_zero, List.set_cons_succ])
                  | (apply wpB_val rfl
                     · (intro w' hw'; obtain ⟨c0, c1, c2, c3, c4, c5, c6, c7, c8, c9, c10⟩ := HCC.out w' hw'; go_simp; with_reducible rfl)
                     simp only [Act.put, List.setIfInBounds_toArray, List.set_cons_zero, List.set_cons_succ]))
                refine wpB_nil (HR.out _ (fun w2 hw2 => ?_))
                clear HR HCC
                replace HST := Lib.hid (HST.out.later HJ.out hw2)
                replace HRB := Lib.hid (HRB.out.later hw2)
                clear hw2 c0 c1 c2 c3 c4
                refine wpList_nil ?_
                gi_wp2
                (try simp only [Exit.noGoto_normal])
                go_end0
                exact HSTOP.out HNO.out _ HST.out
              | false =>
                have HYES : Hid (okAt l k = true) := Lib.hid (by rw [HOK.out]; simp [HN.out])
                refine wp_region_B 21 (fun w'' => Below w1.heap.size w1 w'') mixed (by kernel_rfl) (below_closed w1) (Below.refl _ _).drew ?_
                simp only [List.take_succ_cons, List.take_zero, List.drop_succ_cons, List.drop_zero]
                intro KR hR
                have HR := Lib.hid hR
                clear hR
                have HCC := Lib.hid (show ∀ w'', Below w1.heap.size w1 w'' → w''.cell? ⟨wr.heap.size, 0, none⟩ = some (.int .i64 x.s) ∧ w''.cell? ⟨wr.heap.size, 1, none⟩ = some (.int .i64 x.n) ∧ w''.cell? ⟨wr.heap.size, 2, none⟩ = some (.int .i64 x.m) ∧ w''.cell? ⟨wr.heap.size, 3, none⟩ = some (.int .i64 x.r) ∧ w''.cell? ⟨wr.heap.size, 4, none⟩ = some (.int .u64 x.k) ∧ w''.cell? ⟨b, off + j * 5, none⟩ = some (.int .i64 y.s) ∧ w''.cell? ⟨b, off + j * 5 + 1, none⟩ = some (.int .i64 y.n) ∧ w''.cell? ⟨b, off + j * 5 + 2, none⟩ = some (.int .i64 y.m) ∧ w''.cell? ⟨b, off + j * 5 + 3, none⟩ = some (.int .i64 y.r) ∧ w''.cell? ⟨b, off + j * 5 + 4, none⟩ = some (.int .u64 y.k) ∧ w''.cell? ⟨q, 0, none⟩ = some (.slice (some ⟨b, off, none⟩) l.length cap) from fun w'' hw => ⟨(HRB.out.later hw).cells.1, (HRB.out.later hw).cells.2.1, (HRB.out.later hw).cells.2.2.1, (HRB.out.later hw).cells.2.2.2.1, (HRB.out.later hw).cells.2.2.2.2, (HY1.out.later hw).1, (HY1.out.later hw).2.1, (HY1.out.later hw).2.2.1, (HY1.out.later hw).2.2.2.1, (HY1.out.later hw).2.2.2.2, (HST.out.box.later hw).cell 0⟩)
                repeat (first
                  | ((with_reducible refine wpB_move ?_ ?_); exact rfl; simp only [Act.put, List.setIfInBounds_toArray, List.set_cons_zero, List.set_cons_succ])
                  | ((with_reducible refine wpB_skip ?_ ?_); exact rfl; simp only [Act.put, List.setIfInBounds_toArray, List.set_cons_zero, List.set_cons_succ])
                  | (apply wpB_call 34 #[rdV y, rdV x] rfl (v := .bool false)
                     · (intro w'; go_simp)
                     · exact fun w' hw' => HO.out w'
                     simp only [Act.put, List.setIfInBounds_toArray, List.set_cons_zero, List.set_cons_succ])
                  | (apply wpB_call 35 #[rdV y, rdV x] rfl (v := .bool false)
                     · (intro w'; go_simp)
                     · exact fun w' hw' => HLA.out w'
                     simp only [Act.put, List.setIfInBounds_toArray, List.set_cons_zero, List.set_cons_succ])
                  | (apply wpB_val rfl
                     · (intro w' hw'; obtain ⟨c0, c1, c2, c3, c4, c5, c6, c7, c8, c9, c10⟩ := HCC.out w' hw'; go_simp; with_reducible rfl)
                     simp only [Act.put, List.setIfInBounds_toArray, List.set_cons_zero, List.set_cons_succ]))
                refine wpB_nil (HR.out _ (fun w2 hw2 => ?_))
                clear HR HCC
                replace HST := Lib.hid (HST.out.later HJ.out hw2)
                replace HRB := Lib.hid (HRB.out.later hw2)
                clear hw2 c0 c1 c2 c3 c4
                refine wpList_nil ?_
                obtain ⟨fn, tmps, assign, body, hy, hR⟩ := HY.out (enum l k) ((k : Int), x) w2 HST.out.j (by rw [enum_length]; exact hlt)
                dsimp only [encs] at hy
                have HSN : Hid (enum l (k + 1) = enum l k ++ [((k : Int), x)]) := Lib.hid (by rw [enum_succ, HXE.out])
                have HRR := Lib.hid hR
                clear hR
                obtain ⟨c0, c1, c2, c3, c4⟩ := HRB.out.cells
                gi_wp2
                refine ⟨fun hd => by simp [Fence.wide] at hd, HRR.out.mono ?_⟩
                rintro e W3 (⟨rfl, hJ3, hk3⟩ | ⟨rfl, hJx3⟩)
                · have HS3 : Hid (ItSt W W3 q (some ⟨b, off, none⟩) cap l (k + 1) J) := Lib.hid ⟨fun j hj => by
                      rcases Nat.lt_or_eq_of_le (Nat.le_of_lt_succ hj) with h | rfl
                      · exact HST.out.ok j h
                      · exact HYES.out, by rw [HSN.out]; exact hJ3, hk3.2.trans HST.out.box, HST.out.rds.low HLOW.out hk3.1, Nat.le_trans HST.out.size hk3.1.size⟩
                  clear hJ3 hk3 hy HRR c0 c1 c2 c3 c4
                  gi_wp2
                  go_roundw
                  case rel => exact ⟨k + 1, by omega, by go_num, HS3.out⟩
                  case measure => simp [intOf]; omega
                · have HX3 : Hid (Jx (enum l (k + 1)) W3) := Lib.hid (by rw [HSN.out]; exact hJx3)
                  clear hJx3 hy HRR c0 c1 c2 c3 c4
                  gi_wp2
                  (try simp only [Exit.noGoto_ret])
                  refine bodyPost_ret (results_none rfl _ _ _) rfl ?_
                  exact ⟨⟨_, rfl⟩, .inr ⟨_, ⟨k, hlt, rfl, fun i hi => by rcases Nat.lt_or_eq_of_le hi with h | rfl; exact HST.out.ok i h; exact HYES.out⟩, HX3.out⟩⟩
        · have hnb : (x.n == (k : Int) + 1) = false := by simpa using hn
          have e1 : IntKind.i64.wrap ((k : Int) + 1) = (k : Int) + 1 := IntWalk.i64_in _ (by omega)
          have HNO : Hid (okAt l k = false) := Lib.hid (by rw [HOK.out]; simp [hn])
          clear hn
          gi_wp2
          simp only [Exit.noGoto_normal]
          go_end0
          exact HSTOP.out HNO.out _ HST.out
    · obtain rfl : k = l.length := by omega
      gi_wp2
      simp only [Exit.noGoto_normal]
      go_end0
      exact ⟨⟨_, rfl⟩, .inl ⟨_, ⟨_, Nat.le_refl _, rfl, HST.out.ok, .inl rfl⟩, HST.out.j⟩⟩

end Go.Proofs.Ytddbobphmakmmaa
