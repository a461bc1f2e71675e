/- Package flow: the steps from a node. -/
import Derived.Test.YthgkfdhkmkbioaaFb21
namespace Go.Proofs.Ythgkfdhkmkbioaa
open Go.RowKit Go.Shelf
attribute [local go_sem] Oper.semAt_some

theorem grownNone {W W' : World} (h : Below W.heap.size W W') : W.grownBy W' none := ⟨h.os, h.tape, h.output, h.size, fun k hk _ => h.block k hk⟩
/-- The step along an edge from a node. -/
def stpOf (E : List Ed) (fl : List Int) (v i : Nat) : Stp := if (getE E i).f = v then ⟨i, (getE E i).t, (getE E i).c - fl.getD i 0, true⟩ else ⟨i, (getE E i).f, fl.getD i 0, false⟩
/-- The steps from a node with room left, of the first k edges at it. -/
def stpsL (E : List Ed) (fl : List Int) (v k : Nat) : List Stp := (((incL E v).take k).map (stpOf E fl v)).filter fun x => decide (0 < x.room)
theorem stpsL_succ {E : List Ed} {fl : List Int} {v k : Nat} (h : k < (incL E v).length) : stpsL E fl v (k + 1) = if 0 < (stpOf E fl v ((incL E v).getD k 0)).room then stpsL E fl v k ++ [stpOf E fl v ((incL E v).getD k 0)] else stpsL E fl v k := by
  unfold stpsL
  rw [List.take_add_one, List.getElem?_eq_getElem h, List.getD_eq_getElem?_getD, List.getElem?_eq_getElem h]
  simp only [Option.toList_some, List.map_append, List.map_cons, List.map_nil, List.filter_append, Option.getD_some]
  by_cases hr : 0 < (stpOf E fl v (incL E v)[k]).room
  · rw [if_pos hr, List.filter_cons_of_pos (by simpa using hr)]; simp
  · rw [if_neg hr, List.filter_cons_of_neg (by simpa using hr)]; simp
theorem stpsL_le (E : List Ed) (fl : List Int) (v k : Nat) : (stpsL E fl v k).length ≤ k := by
  unfold stpsL
  refine Nat.le_trans (List.length_filter_le _ _) ?_
  simp
  omega
/-- A step from v with room left. -/
def IsStp (E : List Ed) (fl : List Int) (N v : Nat) (x : Stp) : Prop := StpOk E fl x.to x ∧ frm E x = v ∧ x.to < N
theorem stpOf_ok {E : List Ed} {fl : List Int} {N v i : Nat} (hN : ∀ e ∈ E, e.f < N ∧ e.t < N) (hi : i ∈ incL E v) (hr : 0 < (stpOf E fl v i).room) : IsStp E fl N v (stpOf E fl v i) := by
  obtain ⟨h1, h2⟩ := incL_mem.1 hi
  have hm := hN _ (getE_mem h1)
  unfold stpOf at hr ⊢
  split
  · next hf =>
    rw [if_pos hf] at hr
    exact ⟨⟨h1, rfl, fun _ => ⟨rfl, rfl⟩, fun h => (by cases h), hr⟩, hf, hm.2⟩
  · next hf =>
    rw [if_neg hf] at hr
    exact ⟨⟨h1, rfl, fun h => (by cases h), fun _ => ⟨rfl, rfl⟩, hr⟩, by rcases h2 with h2 | h2; exact absurd h2 hf; exact h2, hm.1⟩
abbrev StpT (E : List Ed) (fl : List Int) (N v : Nat) := { x : Stp // IsStp E fl N v x }
/-- Where all steps lead to the side, no edge leads away from the node. -/
theorem steps_shut {E : List Ed} {fl : List Int} {v i : Nat} {xs : List Stp} (h : xs = stpsL E fl v (incL E v).length) (hi : i < E.length) : ((getE E i).f = v → 0 < (getE E i).c - fl.getD i 0 → ∃ x ∈ xs, x.to = (getE E i).t) ∧ ((getE E i).t = v → (getE E i).f ≠ v → 0 < fl.getD i 0 → ∃ x ∈ xs, x.to = (getE E i).f) := by
  subst h
  unfold stpsL
  rw [List.take_length]
  constructor
  · intro hf hr
    have e : stpOf E fl v i = ⟨i, (getE E i).t, (getE E i).c - fl.getD i 0, true⟩ := by unfold stpOf; rw [if_pos hf]
    exact ⟨stpOf E fl v i, List.mem_filter.2 ⟨List.mem_map.2 ⟨i, incL_mem.2 ⟨hi, .inl hf⟩, rfl⟩, by rw [e]; simpa using hr⟩, by rw [e]⟩
  · intro ht hf hr
    have e : stpOf E fl v i = ⟨i, (getE E i).f, fl.getD i 0, false⟩ := by unfold stpOf; rw [if_neg hf]
    exact ⟨stpOf E fl v i, List.mem_filter.2 ⟨List.mem_map.2 ⟨i, incL_mem.2 ⟨hi, .inr ht⟩, rfl⟩, by rw [e]; simpa using hr⟩, by rw [e]⟩
@[reducible] def encP {E : List Ed} {fl : List Int} {N v : Nat} (x : StpT E fl N v) : Array Value := #[stpV x.1]
def KpP (n₀ q : Nat) (W W' : World) : Prop := Below n₀ W W' ∧ W'.heap[q]? = W.heap[q]? ∧ W'.heap[q + 1]? = W.heap[q + 1]?
theorem KpP.trans {n₀ q : Nat} {A B C : World} (h : KpP n₀ q A B) (k : KpP n₀ q B C) : KpP n₀ q A C := ⟨h.1.trans k.1, k.2.1.trans h.2.1, k.2.2.trans h.2.2⟩
def PDone {E : List Ed} {fl : List Int} {N v : Nat} (xs : List (StpT E fl N v)) : Prop := xs.map (·.1) = stpsL E fl v (incL E v).length
/-- The boxes of the iterator. -/
structure PBox (w : World) (q NB v : Nat) : Prop where
  b : Blk w q 80 #[.pointer (some ⟨NB, 0, none⟩)]
  v : Blk w (q + 1) 3 #[.int .i64 (v : Nat)]
theorem PBox.later {w w' : World} {q NB v : Nat} (h : PBox w q NB v) (hb : Below w.heap.size w w') : PBox w' q NB v := ⟨h.b.later hb, h.v.later hb⟩
theorem PBox.kept {n₀ : Nat} {w w' : World} {q NB v : Nat} (h : PBox w q NB v) (hk : KpP n₀ q w w') : PBox w' q NB v := ⟨hk.2.1.trans h.b, hk.2.2.trans h.v⟩
structure PIt (w0 W wr : World) (q NB : Nat) (E : List Ed) (fl : List Int) (N v k : Nat) (pre : List (StpT E fl N v)) (J : List (StpT E fl N v) → World → Prop) : Prop where
  p : pre.map (·.1) = stpsL E fl v k
  j : J pre wr
  box : PBox wr q NB v
  below : Below w0.heap.size w0 wr
  size : W.heap.size ≤ wr.heap.size
theorem PIt.later {w0 W wr w' : World} {q NB : Nat} {E : List Ed} {fl : List Int} {N v k : Nat} {pre : List (StpT E fl N v)} {J : List (StpT E fl N v) → World → Prop} (h : PIt w0 W wr q NB E fl N v k pre J) (hJ : AbidesFrom W.heap.size J) (hb : Below wr.heap.size wr w') : PIt w0 W w' q NB E fl N v k pre J :=
  ⟨h.p, hJ _ _ _ none h.j (grownNone hb) (fun r e => by cases e), h.box.later hb, below_step h.below hb, Nat.le_trans h.size hb.size⟩

set_option maxRecDepth 100000 in
set_option maxHeartbeats 16000000 in
theorem steps1_in (n lp q : Nat) (w0 : World) (N : Nat) (E : List Ed) (NB FB AB : Nat) (eo : Option Addr) (ec : Nat) (fl : List Int) (v : Nat) (hv : v < N) (hnet : NetW w0 N E NB FB AB eo ec) (hfb : Blk w0 FB 3 (intsC fl)) (hlen : E.length = fl.length) (hcap : ∀ i, i < E.length → 0 ≤ fl.getD i 0 ∧ fl.getD i 0 ≤ (getE E i).c) (J Jx : List (StpT E fl N v) → World → Prop)
    (hY : ∀ pre x W, J pre W → pre.length < (incL E v).length → YieldAt Fence.wide (n - 1) Try.prog lp (encP x) W fun e W' => (e = .returned (.bool true) ∧ J (pre ++ [x]) W' ∧ KpP w0.heap.size q W W') ∨ (e = .returned (.bool false) ∧ Jx (pre ++ [x]) W'))
    (W : World) (hW : Below w0.heap.size w0 W) (hJ : AbidesFrom W.heap.size J) (hq : PBox W q NB v) (h0 : J [] W) :
    CallsIn Fence.wide n Try.prog 72 #[.func (.yield lp) #[] #[], .pointer (some ⟨q, 0, none⟩), .pointer (some ⟨q + 1, 0, none⟩)] W fun e W' => (∃ v, e = .returned v) ∧ ((∃ xs, PDone xs ∧ J xs W') ∨ (∃ pre, Jx pre W')) := by
  have HS0 : Hid (PIt w0 W W q NB E fl N v 0 [] J) := Lib.hid ⟨rfl, h0, hq, hW, Nat.le_refl _⟩
  have HY := Lib.hid hY
  have HJ := Lib.hid hJ
  have HNET := Lib.hid hnet
  have HFB := Lib.hid hfb
  have HCAP := Lib.hid hcap
  have HLEN := Lib.hid hlen
  have hN64 := hnet.n64
  have c0 : W.cell? ⟨q, 0, none⟩ = some (.pointer (some ⟨NB, 0, none⟩)) := hq.b.cell 0
  have c1 : W.cell? ⟨q + 1, 0, none⟩ = some (.int .i64 (v : Nat)) := hq.v.cell 0
  have b3 : W.cell? ⟨NB, 3, none⟩ = some (.slice (some ⟨AB, 0, none⟩) N N) := (hnet.later hW).nb.cell 3
  obtain ⟨oi, ci, r0, hri⟩ := hnet.rows v hv
  replace r0 := cell_kept hW r0
  have HRI := Lib.hid hri
  clear hri
  have HIL : Hid ((incL E v).length ≤ 512) := Lib.hid (by unfold incL; refine Nat.le_trans (List.length_filter_le _ _) ?_; rw [List.length_range]; exact hnet.e512)
  have HBL := Lib.hid hW
  clear hY hJ hq h0 hnet hfb hcap hlen hW
  have y1 : (0 : Int) ≤ (v : Int) := by omega
  have y2 : (v : Int) < (N : Int) := by omega
  refine callsIn_of_wp Try.func72 rfl trivial ?_ rfl
  simp only [Try.ntmps72, List.size_toArray, List.length_cons, List.length_nil, Nat.reduceAdd, Nat.reduceSub, Array.replicate_succ, Array.replicate_zero, List.push_toArray, List.append_toArray, List.nil_append, List.cons_append]
  refine wpIn_wide.2 ?_
  go_wp2_with fail
  go_quiet (fail)
  obtain ⟨W0, hW0⟩ : ∃ W', W' = W.drewN nq := ⟨_, rfl⟩
  have HBD := Lib.hid (show Below W.heap.size W W0 by rw [hW0]; exact below_drewN (Below.refl _ _) _)
  rw [← hW0]
  replace HS0 := Lib.hid (HS0.out.later HJ.out HBD.out)
  clear hW0 c0 c1 b3 r0
  go_wp2_with fail
  refine (wpIn_wide (n := n)).1 ?_
  gi_loopw [16] (fun i wr => ∃ (k : Nat) (pre : List (StpT E fl N v)), k ≤ (incL E v).length ∧ i = .int .i64 k ∧ PIt w0 W wr q NB E fl N v k pre J) (fun i _ => (incL E v).length - (intOf i).toNat)
  case atStart => exact ⟨0, [], Nat.zero_le _, rfl, HS0.out⟩
  case round =>
    obtain ⟨k, pre, hk, rfl, hst⟩ := hrel
    obtain ⟨wA, rfl⟩ : ∃ wA : World, wA = wr := ⟨_, rfl⟩
    have HST := Lib.hid hst
    clear hst HS0 HBD
    by_cases hlt : k < (incL E v).length
    · have HIM : Hid ((incL E v).getD k 0 ∈ incL E v) := Lib.hid (by rw [List.getD_eq_getElem?_getD, List.getElem?_eq_getElem hlt]; exact List.getElem_mem hlt)
      have HSU := Lib.hid (stpsL_succ (fl := fl) hlt)
      obtain ⟨gi, fi, rfl, _, e0⟩ := (HRI.out.agr (Agr.of_below (S := []) HST.out.below) (fun _ h => by cases h)) k (by unfold natI; rw [List.length_map]; exact hlt)
      rw [show (natI (incL E v)).getD k 0 = (((incL E v).getD k 0 : Nat) : Int) by unfold natI; simp [hlt]] at e0
      obtain ⟨I, hI⟩ : ∃ I, (incL E v).getD k 0 = I := ⟨_, rfl⟩
      rw [hI] at HIM HSU e0
      clear hI
      have hIE := (incL_mem.1 HIM.out).1
      have HCI := Lib.hid (HCAP.out I hIE)
      have HCE := Lib.hid (HNET.out.cap _ (getE_mem hIE))
      have HOK := Lib.hid (stpOf_ok (fl := fl) HNET.out.inN HIM.out)
      have HSO := Lib.hid (show stpOf E fl v I = if (getE E I).f = v then ⟨I, (getE E I).t, (getE E I).c - fl.getD I 0, true⟩ else ⟨I, (getE E I).f, fl.getD I 0, false⟩ from rfl)
      obtain ⟨be, oe, rfl, _, d0, d1, d2⟩ := (HNET.out.later HST.out.below).eds I hIE
      have n1 : wA.cell? ⟨NB, 1, none⟩ = some (.slice (some ⟨be, oe, none⟩) E.length ec) := (HNET.out.later HST.out.below).nb.cell 1
      have n2 : wA.cell? ⟨NB, 2, none⟩ = some (.slice (some ⟨FB, 0, none⟩) E.length E.length) := (HNET.out.later HST.out.below).nb.cell 2
      have q0 : wA.cell? ⟨q, 0, none⟩ = some (.pointer (some ⟨NB, 0, none⟩)) := HST.out.box.b.cell 0
      have q1 : wA.cell? ⟨q + 1, 0, none⟩ = some (.int .i64 (v : Nat)) := HST.out.box.v.cell 0
      have f0 : wA.cell? ⟨FB, I, none⟩ = some (.int .i64 (fl.getD I 0)) := ((HFB.out.later HST.out.below).cell I).trans (intsC_get (by rw [← HLEN.out]; exact hIE))
      have HE512 := Lib.hid HNET.out.e512
      obtain ⟨ef, hef⟩ : ∃ x, (getE E I).f = x := ⟨_, rfl⟩
      obtain ⟨et, het⟩ : ∃ x, (getE E I).t = x := ⟨_, rfl⟩
      obtain ⟨cc, hcc⟩ : ∃ x, (getE E I).c = x := ⟨_, rfl⟩
      obtain ⟨fx, hfx⟩ : ∃ x, fl.getD I 0 = x := ⟨_, rfl⟩
      obtain ⟨EL, hEL⟩ : ∃ x, E.length = x := ⟨_, rfl⟩
      obtain ⟨IL, hIL⟩ : ∃ x, (incL E v).length = x := ⟨_, rfl⟩
      rw [hef] at d0 HSO
      rw [het] at d1 HSO
      rw [hcc] at d2 HSO HCI HCE
      rw [hfx] at f0 HSO HCI
      rw [hEL] at n1 n2 hIE HE512
      clear hef het hcc hfx
      have y3 : (0 : Int) ≤ (I : Int) := by omega
      have y4 : (I : Int) < (EL : Int) := by omega
      have y5 : (0 : Int) ≤ (k : Int) := by omega
      have y6 : (k : Int) < ((incL E v).length : Int) := by omega
      have hc0 := HCI.out.1
      have hc1 := HCI.out.2
      have hc2 := HCE.out.2
      clear hEL hIL
      gi_wp2_with fail
      obtain ⟨W4, hW4⟩ : ∃ W', W' = wA.alloc (.cells #[.int .i64 (ef : Nat), .int .i64 (et : Nat), .int .i64 cc] 55) := ⟨_, rfl⟩
      have HB4 := Lib.hid (show Below wA.heap.size wA W4 by rw [hW4]; exact below_alloc (Below.refl _ _) _)
      have HP := Lib.hid (show Blk W4 wA.heap.size 55 #[.int .i64 (ef : Nat), .int .i64 (et : Nat), .int .i64 cc] by rw [hW4]; exact Blk.new _ _ _)
      rw [← hW4]
      clear hW4 d0 d1 d2 n1
      replace q0 := cell_kept HB4.out q0
      replace q1 := cell_kept HB4.out q1
      replace n2 := cell_kept HB4.out n2
      replace f0 := cell_kept HB4.out f0
      replace HST := Lib.hid (HST.out.later HJ.out HB4.out)
      have p0 : W4.cell? ⟨wA.heap.size, 0, none⟩ = some (.int .i64 (ef : Nat)) := HP.out.cell 0
      have p1 : W4.cell? ⟨wA.heap.size, 1, none⟩ = some (.int .i64 (et : Nat)) := HP.out.cell 1
      have p2 : W4.cell? ⟨wA.heap.size, 2, none⟩ = some (.int .i64 cc) := HP.out.cell 2
      have q0a : ∀ o, (W4.alloc o).cell? ⟨q, 0, none⟩ = some (.pointer (some ⟨NB, 0, none⟩)) := fun o => cell_kept (below_alloc (Below.refl _ _) o) q0
      have n2a : ∀ o, (W4.alloc o).cell? ⟨NB, 2, none⟩ = some (.slice (some ⟨FB, 0, none⟩) EL EL) := fun o => cell_kept (below_alloc (Below.refl _ _) o) n2
      have f0a : ∀ o, (W4.alloc o).cell? ⟨FB, I, none⟩ = some (.int .i64 fx) := fun o => cell_kept (below_alloc (Below.refl _ _) o) f0
      have p1a : ∀ o, (W4.alloc o).cell? ⟨wA.heap.size, 1, none⟩ = some (.int .i64 (et : Nat)) := fun o => cell_kept (below_alloc (Below.refl _ _) o) p1
      have p2a : ∀ o, (W4.alloc o).cell? ⟨wA.heap.size, 2, none⟩ = some (.int .i64 cc) := fun o => cell_kept (below_alloc (Below.refl _ _) o) p2
      gi_region
      obtain ⟨W5, hW5⟩ : ∃ W', W' = (W4.alloc (.cells #[.int .i64 (I : Nat), .int .i64 (et : Nat), .int .i64 (cc - fx), .bool true] 107)).drew := ⟨_, rfl⟩
      have HB5 := Lib.hid (show Below W4.heap.size W4 W5 by rw [hW5]; exact (below_alloc (Below.refl _ _) _).drew)
      have HT := Lib.hid (show Blk W5 W4.heap.size 107 #[.int .i64 (I : Nat), .int .i64 (et : Nat), .int .i64 (cc - fx), .bool true] by rw [hW5]; exact (Blk.new _ _ _).drew)
      have hne : ¬ wA.heap.size = W4.heap.size := by have := HP.out.lt; omega
      rw [← hW5]
      clear hW5 q0a n2a f0a p1a p2a
      replace q0 := cell_kept HB5.out q0
      replace q1 := cell_kept HB5.out q1
      replace n2 := cell_kept HB5.out n2
      replace f0 := cell_kept HB5.out f0
      replace p0 := cell_kept HB5.out p0
      clear p1 p2
      have HST4 := HST
      have HBT := HB5
      replace HST := Lib.hid (HST.out.later HJ.out HB5.out)
      replace HP := Lib.hid (HP.out.later HB5.out)
      obtain ⟨TB, hTB⟩ : ∃ T, W4.heap.size = T := ⟨_, rfl⟩
      have HTE := Lib.hid hTB
      rw [hTB] at HT hne ⊢
      clear hTB HB4 HB5
      have HPL : Hid (pre.length < (incL E v).length) := Lib.hid (by have h1 := stpsL_le E fl v k; rw [← HST.out.p, List.length_map] at h1; omega)
      by_cases hvf : ef = v
      · have d1 : ((ef : Int) != (v : Int)) = false := by rw [hvf]; simp
        have HZ : Hid (stpOf E fl v I = ⟨I, et, cc - fx, true⟩) := Lib.hid (by rw [HSO.out, if_pos hvf])
        rw [HZ.out] at HSU HOK
        obtain ⟨rm, hrm⟩ : ∃ rm, cc - fx = rm := ⟨_, rfl⟩
        rw [hrm] at HSU HOK HT
        clear HSO hvf HZ hrm
        have t0 : W5.cell? ⟨TB, 0, none⟩ = some (.int .i64 (I : Nat)) := HT.out.cell 0
        have t1 : W5.cell? ⟨TB, 1, none⟩ = some (.int .i64 (et : Nat)) := HT.out.cell 1
        have t2 : W5.cell? ⟨TB, 2, none⟩ = some (.int .i64 (rm)) := HT.out.cell 2
        have t3 : W5.cell? ⟨TB, 3, none⟩ = some (.bool true) := HT.out.cell 3
        have hil := HIL.out
        by_cases hr : 0 < rm
        · have HX := Lib.hid (HOK.out hr)
          rw [if_pos hr] at HSU
          have dr : decide (0 < rm) = true := decide_eq_true hr
          clear hr HOK
          obtain ⟨fn, tmps, assign, body, hy, hR⟩ := HY.out pre ⟨_, HX.out⟩ W5 HST.out.j HPL.out
          dsimp only [encP, stpV] at hy
          have HRR := Lib.hid hR
          clear hR
          gi_wp2
          refine ⟨fun hd => by simp [Fence.wide] at hd, HRR.out.mono ?_⟩
          rintro e W7 (⟨rfl, hJ3, hk3⟩ | ⟨rfl, hJx3⟩)
          · have HS3 : Hid (PIt w0 W W7 q NB E fl N v (k + 1) (pre ++ [⟨⟨I, et, rm, true⟩, HX.out⟩]) J) := Lib.hid ⟨by rw [HSU.out, List.map_append, HST.out.p]; rfl, hJ3, HST.out.box.kept hk3, HST.out.below.trans hk3.1, Nat.le_trans HST.out.size hk3.1.size⟩
            clear hJ3 hk3 hy HRR t0 t1 t2 t3
            gi_wp2
            go_roundw
            case rel => exact ⟨k + 1, _, by omega, by go_num, HS3.out⟩
            case measure => simp [intOf]; omega
          · have HX3 := Lib.hid hJx3
            clear hJx3 hy HRR t0 t1 t2 t3
            gi_wp2
            (try simp only [Exit.noGoto_ret])
            refine bodyPost_ret (results_none rfl _ _ _) rfl ?_
            exact ⟨⟨_, rfl⟩, .inr ⟨_, HX3.out⟩⟩
        · rw [if_neg hr] at HSU
          have dr : decide (0 < rm) = false := decide_eq_false hr
          have HS3 : Hid (PIt w0 W W5 q NB E fl N v (k + 1) pre J) := Lib.hid ⟨HST.out.p.trans HSU.out.symm, HST.out.j, HST.out.box, HST.out.below, HST.out.size⟩
          clear hr HOK HSU
          gi_wp2
          refine ⟨fun _ h => (by cases h), ?_⟩
          gi_wp2
          exact ⟨⟨k + 1, pre, hlt, by go_num, HS3.out⟩, by simp [intOf]; omega⟩
      · have d1 : ((ef : Int) != (v : Int)) = true := by simp; omega
        have HZ : Hid (stpOf E fl v I = ⟨I, ef, fx, false⟩) := Lib.hid (by rw [HSO.out, if_neg hvf])
        rw [HZ.out] at HSU HOK
        clear HSO hvf HZ
        gi_wp2_with fail
        have JJ := Lib.hid (show W5.cell? ⟨wA.heap.size, 0, none⟩ = some (.int .i64 (ef : Nat)) ∧ W5.cell? ⟨q, 0, none⟩ = some (.pointer (some ⟨NB, 0, none⟩)) ∧ W5.cell? ⟨NB, 2, none⟩ = some (.slice (some ⟨FB, 0, none⟩) EL EL) ∧ W5.cell? ⟨FB, I, none⟩ = some (.int .i64 fx) from ⟨p0, q0, n2, f0⟩)
        refine wpIn_wide.2 ?_
        refine wp_region_mask [11] [true, true, true, true, true, true, true, true, true, true, true, false] (fun w'' => w''.cell? ⟨wA.heap.size, 0, none⟩ = some (.int .i64 (ef : Nat)) ∧ w''.cell? ⟨q, 0, none⟩ = some (.pointer (some ⟨NB, 0, none⟩)) ∧ w''.cell? ⟨NB, 2, none⟩ = some (.slice (some ⟨FB, 0, none⟩) EL EL) ∧ w''.cell? ⟨FB, I, none⟩ = some (.int .i64 fx)) mixed (by kernel_rfl) ?_
        intro KR hR
        have HR := Lib.hid hR
        clear hR
        simp only [marked]
        apply wpM_val rfl
        · (intro w' hw'; go_simp; with_reducible rfl)
        simp only [Act.put, List.setIfInBounds_toArray, List.set_cons_zero, List.set_cons_succ]
        apply wpM_val rfl
        · (intro w' hw'; go_simp; with_reducible rfl)
        simp only [Act.put, List.setIfInBounds_toArray, List.set_cons_zero, List.set_cons_succ]
        apply wpM_val rfl
        · (intro w' hw'; obtain ⟨c0, c1, c2, c3⟩ := hw'; go_simp; with_reducible rfl)
        simp only [Act.put, List.setIfInBounds_toArray, List.set_cons_zero, List.set_cons_succ]
        apply wpM_val rfl
        · (intro w' hw'; obtain ⟨c0, c1, c2, c3⟩ := hw'; go_simp; with_reducible rfl)
        simp only [Act.put, List.setIfInBounds_toArray, List.set_cons_zero, List.set_cons_succ]
        apply wpM_val rfl
        · (intro w' hw'; go_simp; with_reducible rfl)
        simp only [Act.put, List.setIfInBounds_toArray, List.set_cons_zero, List.set_cons_succ]
        apply wpM_val rfl
        · (intro w' hw'; go_simp; with_reducible rfl)
        simp only [Act.put, List.setIfInBounds_toArray, List.set_cons_zero, List.set_cons_succ]
        apply wpM_val rfl
        · (intro w' hw'; obtain ⟨c0, c1, c2, c3⟩ := hw'; go_simp; with_reducible rfl)
        simp only [Act.put, List.setIfInBounds_toArray, List.set_cons_zero, List.set_cons_succ]
        apply wpM_val rfl
        · (intro w' hw'; go_simp; with_reducible rfl)
        simp only [Act.put, List.setIfInBounds_toArray, List.set_cons_zero, List.set_cons_succ]
        apply wpM_val rfl
        · (intro w' hw'; go_simp; with_reducible rfl)
        simp only [Act.put, List.setIfInBounds_toArray, List.set_cons_zero, List.set_cons_succ]
        apply wpM_val rfl
        · (intro w' hw'; obtain ⟨c0, c1, c2, c3⟩ := hw'; go_simp; with_reducible rfl)
        simp only [Act.put, List.setIfInBounds_toArray, List.set_cons_zero, List.set_cons_succ]
        apply wpM_val rfl
        · (intro w' hw'; go_simp; with_reducible rfl)
        simp only [Act.put, List.setIfInBounds_toArray, List.set_cons_zero, List.set_cons_succ]
        refine wpM_nil (HR.out _ ?_)
        clear HR
        clear q0 q1 n2 f0 p0
        obtain ⟨W6, hW6⟩ : ∃ W', W' = W5.drew := ⟨_, rfl⟩
        have HB6 := Lib.hid (show Below W5.heap.size W5 W6 by rw [hW6]; exact (Below.refl _ _).drew)
        rw [← hW6]
        clear hW6
        have HJ6 := Lib.hid (show W6.cell? ⟨wA.heap.size, 0, none⟩ = some (.int .i64 (ef : Nat)) ∧ W6.cell? ⟨q, 0, none⟩ = some (.pointer (some ⟨NB, 0, none⟩)) ∧ W6.cell? ⟨NB, 2, none⟩ = some (.slice (some ⟨FB, 0, none⟩) EL EL) ∧ W6.cell? ⟨FB, I, none⟩ = some (.int .i64 fx) from ⟨cell_kept HB6.out JJ.out.1, cell_kept HB6.out JJ.out.2.1, cell_kept HB6.out JJ.out.2.2.1, cell_kept HB6.out JJ.out.2.2.2⟩)
        have HT5 := HT
        replace HT := Lib.hid (HT.out.later HB6.out)
        have HTL := Lib.hid HT5.out.lt
        clear JJ
        have f3 : ∀ j, W6.frozen? ⟨TB, j, none⟩ = false := HT.out.frozen
        have g0 : W6.cell? ⟨TB, 0, none⟩ = some (.int .i64 (I : Nat)) := HT.out.cell 0
        have g1 : W6.cell? ⟨TB, 1, none⟩ = some (.int .i64 (et : Nat)) := HT.out.cell 1
        have g2 : W6.cell? ⟨TB, 2, none⟩ = some (.int .i64 (cc - fx)) := HT.out.cell 2
        have g3 : W6.cell? ⟨TB, 3, none⟩ = some (.bool true) := HT.out.cell 3
        refine wpC_skipN rfl rfl rfl HJ6.out (w' := (((W6.setCell ⟨TB, 0, none⟩ (.int .i64 (I : Nat))).setCell ⟨TB, 1, none⟩ (.int .i64 (ef : Nat))).setCell ⟨TB, 2, none⟩ (.int .i64 fx)).setCell ⟨TB, 3, none⟩ (.bool false)) (by go_simp) ?_
        refine wpC_nil ?_
        obtain ⟨W8, hW8⟩ : ∃ W', W' = (((W6.setCell ⟨TB, 0, none⟩ (.int .i64 (I : Nat))).setCell ⟨TB, 1, none⟩ (.int .i64 (ef : Nat))).setCell ⟨TB, 2, none⟩ (.int .i64 fx)).setCell ⟨TB, 3, none⟩ (.bool false) := ⟨_, rfl⟩
        replace HT : Hid (Blk W8 TB 107 #[.int .i64 (I : Nat), .int .i64 (ef : Nat), .int .i64 fx, .bool false]) := Lib.hid (by rw [hW8]; exact (((HT.out.set 0 _).set 1 _).set 2 _).set 3 _)
        have HA8 := Lib.hid (show Below W4.heap.size W4 W8 by rw [hW8]; exact (((((HBT.out.trans (HB6.out.mono (by rw [HTE.out]; exact Nat.le_of_lt HTL.out)))).setCell (Nat.le_of_eq HTE.out) _).setCell (Nat.le_of_eq HTE.out) _).setCell (Nat.le_of_eq HTE.out) _).setCell (Nat.le_of_eq HTE.out) _)
        rw [← hW8]
        clear hW8 f3 g0 g1 g2 g3 HJ6
        replace HST := Lib.hid (HST4.out.later HJ.out HA8.out)
        clear HA8 HB6 HTL
        have t0 : W8.cell? ⟨TB, 0, none⟩ = some (.int .i64 (I : Nat)) := HT.out.cell 0
        have t1 : W8.cell? ⟨TB, 1, none⟩ = some (.int .i64 (ef : Nat)) := HT.out.cell 1
        have t2 : W8.cell? ⟨TB, 2, none⟩ = some (.int .i64 (fx)) := HT.out.cell 2
        have t3 : W8.cell? ⟨TB, 3, none⟩ = some (.bool false) := HT.out.cell 3
        have hil := HIL.out
        by_cases hr : 0 < fx
        · have HX := Lib.hid (HOK.out hr)
          rw [if_pos hr] at HSU
          have dr : decide (0 < fx) = true := decide_eq_true hr
          clear hr HOK
          obtain ⟨fn, tmps, assign, body, hy, hR⟩ := HY.out pre ⟨_, HX.out⟩ W8 HST.out.j HPL.out
          dsimp only [encP, stpV] at hy
          have HRR := Lib.hid hR
          clear hR
          gi_wp2
          refine ⟨fun hd => by simp [Fence.wide] at hd, HRR.out.mono ?_⟩
          rintro e W7 (⟨rfl, hJ3, hk3⟩ | ⟨rfl, hJx3⟩)
          · have HS3 : Hid (PIt w0 W W7 q NB E fl N v (k + 1) (pre ++ [⟨⟨I, ef, fx, false⟩, HX.out⟩]) J) := Lib.hid ⟨by rw [HSU.out, List.map_append, HST.out.p]; rfl, hJ3, HST.out.box.kept hk3, HST.out.below.trans hk3.1, Nat.le_trans HST.out.size hk3.1.size⟩
            clear hJ3 hk3 hy HRR t0 t1 t2 t3
            gi_wp2
            go_roundw
            case rel => exact ⟨k + 1, _, by omega, by go_num, HS3.out⟩
            case measure => simp [intOf]; omega
          · have HX3 := Lib.hid hJx3
            clear hJx3 hy HRR t0 t1 t2 t3
            gi_wp2
            (try simp only [Exit.noGoto_ret])
            refine bodyPost_ret (results_none rfl _ _ _) rfl ?_
            exact ⟨⟨_, rfl⟩, .inr ⟨_, HX3.out⟩⟩
        · rw [if_neg hr] at HSU
          have dr : decide (0 < fx) = false := decide_eq_false hr
          have HS3 : Hid (PIt w0 W W8 q NB E fl N v (k + 1) pre J) := Lib.hid ⟨HST.out.p.trans HSU.out.symm, HST.out.j, HST.out.box, HST.out.below, HST.out.size⟩
          clear hr HOK HSU
          gi_wp2
          refine ⟨fun _ h => (by cases h), ?_⟩
          gi_wp2
          exact ⟨⟨k + 1, pre, hlt, by go_num, HS3.out⟩, by simp [intOf]; omega⟩
    · obtain rfl : k = (incL E v).length := by omega
      gi_wp2
      (try simp only [Exit.noGoto_normal])
      go_end0
      exact ⟨⟨_, rfl⟩, .inl ⟨pre, HST.out.p, HST.out.j⟩⟩
end Go.Proofs.Ythgkfdhkmkbioaa