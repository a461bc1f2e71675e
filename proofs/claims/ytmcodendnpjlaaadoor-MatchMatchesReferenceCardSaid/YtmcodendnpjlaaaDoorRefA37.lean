/- Chapter 37: the reference's Pairs and Cost; its table in memory. -/
import Derived.Test.YtmcodendnpjlaaaDoorPlainI37
import Derived.Test.YtmcodendnpjlaaaDoorWl37
import Derived.Test.YtmcodendnpjlaaaDoorWdd37
import Derived.Test.YtmcodendnpjlaaaDoorWs37
import Derived.BigQuiet
import Derived.OwnWalk
namespace Go.Proofs.YtmcodendnpjlaaaDoor
section
section
variable (E X : List Ps) (l : List (Int × Int))
def prevE (k : Nat) : Int := if k = 0 then -1 else (l.getD (k - 1) (0, 0)).1
def okP (b : Int) (p : Int × Int) : Bool := decide (0 ≤ p.1) && decide (p.1 < (E.length : Int)) && decide (0 ≤ p.2) && decide (p.2 < (X.length : Int)) && decide (b < p.1) && decide ((E.getD p.1.toNat Ps.zero).mn < (X.getD p.2.toNat Ps.zero).mn)
def otherX (i : Nat) (x : Int) : Bool := (List.range i).all fun k => decide ((l.getD k (0, 0)).2 ≠ x)
def okAt (i : Nat) : Bool := okP E X (prevE l i) (l.getD i (0, 0)) && otherX l i (l.getD i (0, 0)).2
def pairsR : Bool := (List.range l.length).all (okAt E X l)
def dAt (i : Nat) : Int := dP (E.getD (l.getD i (0, 0)).1.toNat Ps.zero) (X.getD (l.getD i (0, 0)).2.toNat Ps.zero)
def sumR (k : Nat) : Int := ((List.range k).map (dAt E X l)).sum
def costR : Option Int := if validP E && validP X && pairsR E X l then some (5 * ((E.length : Int) + (X.length : Int) - 2 * (l.length : Int)) + sumR E X l l.length) else none
end
section
variable {E X : List Ps} {l : List (Int × Int)}
theorem sumR_succ (k : Nat) : sumR E X l (k + 1) = sumR E X l k + dAt E X l k := by
  simp [sumR, List.range_succ]
theorem pairsR_bad {k : Nat} (hk : k < l.length) (h : okAt E X l k = false) : pairsR E X l = false := by
  unfold pairsR
  rw [List.all_eq_false]
  exact ⟨k, List.mem_range.2 hk, by simp [h]⟩
theorem pairsR_good (h : ∀ k, k < l.length → okAt E X l k = true) : pairsR E X l = true := by
  unfold pairsR
  rw [List.all_eq_true]
  exact fun k hk => h k (List.mem_range.1 hk)
theorem costF_step {b c : Int} {u : List Bool} {p : Int × Int} {t : List (Int × Int)} (hb : -1 ≤ b) :
    costF E X b u c (p :: t) = if okP E X b p && !u.getD p.2.toNat false then costF E X p.1 (u.set p.2.toNat true) (c + (dP (E.getD p.1.toNat Ps.zero) (X.getD p.2.toNat Ps.zero) - 10)) t else none := by
  have e : costF E X b u c (p :: t) = if p.1 ≤ b then none else if (E.length : Int) ≤ p.1 then none else if p.2 < 0 then none else if (X.length : Int) ≤ p.2 then none else if u.getD p.2.toNat false = true then none
    else if (X.getD p.2.toNat Ps.zero).mn ≤ (E.getD p.1.toNat Ps.zero).mn then none else costF E X p.1 (u.set p.2.toNat true) (c + (dP (E.getD p.1.toNat Ps.zero) (X.getD p.2.toNat Ps.zero) - 10)) t := rfl
  rw [e]
  unfold okP
  generalize costF E X p.1 _ _ t = r
  generalize u.getD p.2.toNat false = v
  by_cases h1 : p.1 ≤ b
  · rw [if_pos h1, if_neg (by simp; omega)]
  rw [if_neg h1]
  by_cases h2 : (E.length : Int) ≤ p.1
  · rw [if_pos h2, if_neg (by simp; omega)]
  rw [if_neg h2]
  by_cases h3 : p.2 < 0
  · rw [if_pos h3, if_neg (by simp; omega)]
  rw [if_neg h3]
  by_cases h4 : (X.length : Int) ≤ p.2
  · rw [if_pos h4, if_neg (by simp; omega)]
  rw [if_neg h4]
  cases v with
  | true => simp
  | false =>
    rw [if_neg (by simp)]
    by_cases h6 : (X.getD p.2.toNat Ps.zero).mn ≤ (E.getD p.1.toNat Ps.zero).mn
    · rw [if_pos h6, if_neg (by simp only [Bool.and_eq_true, decide_eq_true_eq, not_and]; intro h; omega)]
    · rw [if_neg h6, if_pos (by simp only [Bool.and_eq_true, decide_eq_true_eq, Bool.not_false]; exact ⟨⟨⟨⟨⟨⟨by omega, by omega⟩, by omega⟩, by omega⟩, by omega⟩, by omega⟩, trivial⟩)]
theorem costF_tail (hX : X.length ≤ 8) : ∀ (n k : Nat) (b c : Int) (u : List Bool), k + n = l.length → b = prevE l k → -1 ≤ b → u.length = 8 → (∀ j, j < 8 → u.getD j false = !otherX l k (j : Int)) →
    costF E X b u c (l.drop k) = if (List.range n).all (fun i => okAt E X l (k + i)) then some (c + ((List.range n).map (fun i => dAt E X l (k + i) - 10)).sum) else none := by
  intro n
  induction n with
  | zero =>
    intro k b c u hk _ _ _ _
    rw [List.drop_of_length_le (by omega)]
    simp [costF]
  | succ n ih =>
    intro k b c u hk hb hb1 hu8 hu
    have hlt : k < l.length := by omega
    rw [dropT hlt, costF_step hb1, List.range_succ_eq_map]
    simp only [List.all_cons, List.all_map, List.map_cons, List.map_map, List.sum_cons, Nat.add_zero]
    have e1 : ((fun i => okAt E X l (k + i)) ∘ Nat.succ) = fun i => okAt E X l (k + 1 + i) := by
      funext i
      show okAt E X l (k + (i + 1)) = _
      rw [show k + (i + 1) = k + 1 + i by omega]
    have e2 : ((fun i => dAt E X l (k + i) - 10) ∘ Nat.succ) = fun i => dAt E X l (k + 1 + i) - 10 := by
      funext i
      show dAt E X l (k + (i + 1)) - 10 = _
      rw [show k + (i + 1) = k + 1 + i by omega]
    rw [e1, e2]
    have hok : okAt E X l k = (okP E X b (l.getD k (0, 0)) && otherX l k (l.getD k (0, 0)).2) := by unfold okAt; rw [← hb]
    cases hp : okP E X b (l.getD k (0, 0)) with
    | false => rw [hok, hp]; simp
    | true =>
      have hp' := hp
      unfold okP at hp'
      simp only [Bool.and_eq_true, decide_eq_true_eq] at hp'
      obtain ⟨⟨⟨⟨⟨p1, p2⟩, p3⟩, p4⟩, p5⟩, p6⟩ := hp'
      obtain ⟨j, hj⟩ : ∃ j : Nat, (l.getD k (0, 0)).2 = (j : Int) := ⟨(l.getD k (0, 0)).2.toNat, by omega⟩
      have hj8 : j < 8 := by omega
      rw [hok, hp, hj, Int.toNat_natCast, hu j hj8]
      cases ho : otherX l k (j : Int) with
      | false => simp
      | true =>
        simp only [Bool.not_true, Bool.not_false, Bool.and_self, if_true, Bool.true_and]
        rw [ih (k + 1) _ _ _ (by omega) (by simp [prevE]) (by omega) (by rw [List.length_set]; exact hu8) ?_]
        · have e3 : dP (E.getD (l.getD k (0, 0)).1.toNat Ps.zero) (X.getD j Ps.zero) = dAt E X l k := by unfold dAt; rw [hj, Int.toNat_natCast]
          rw [e3]
          congr 2
          omega
        · intro i hi
          have e4 : otherX l (k + 1) (i : Int) = (otherX l k (i : Int) && decide ((l.getD k (0, 0)).2 ≠ (i : Int))) := by
            simp [otherX, List.range_succ]
          rw [e4, hj]
          by_cases hij : i = j
          · subst hij
            simp [hu8, hi]
          · have h1 : (u.set j true).getD i false = u.getD i false := by
              simp only [List.getD_eq_getElem?_getD, List.getElem?_set_ne (Ne.symm hij)]
            rw [h1, hu i hi]
            have : decide ((j : Int) ≠ (i : Int)) = true := by simp; omega
            rw [this, Bool.and_true]
theorem sum_shift (f : Nat → Int) : ∀ n, ((List.range n).map (fun i => f i - 10)).sum = ((List.range n).map f).sum - 10 * (n : Int) := by
  intro n
  induction n with
  | zero => simp
  | succ n ih =>
    rw [List.range_succ]
    simp only [List.map_append, List.map_cons, List.map_nil, List.sum_append, List.sum_cons, List.sum_nil]
    rw [ih]
    omega
theorem costR_eq : costO E X l = costR E X l := by
  unfold costO costR
  cases hE : validP E with
  | false => simp
  | true =>
    cases hX : validP X with
    | false => simp
    | true =>
      have hX8 : X.length ≤ 8 := by unfold validP at hX; simp at hX; exact hX.1
      have h := costF_tail (E := E) (l := l) hX8 l.length 0 (-1) (5 * ((E.length : Int) + (X.length : Int))) (List.replicate 8 false) (by omega) rfl (by omega) rfl (fun j hj => by simp only [otherX, List.range_zero, List.all_nil, Bool.not_true, List.getD_eq_getElem?_getD, List.getElem?_replicate, hj, if_true, Option.getD_some])
      rw [List.drop_zero] at h
      simp only [Nat.zero_add] at h
      rw [if_pos (by simp), h, sum_shift]
      unfold pairsR sumR
      simp only [Bool.true_and]
      congr 2
      omega
end
end
section
open Go.RowKit
attribute [local go_sem] Oper.semAt_some

theorem okP_bad {E X : List Ps} {l : List (Int × Int)} {k : Nat} (h : okP E X (prevE l k) (l.getD k (0, 0)) = false) : okAt E X l k = false := by unfold okAt; rw [h, Bool.false_and]
theorem otherX_bad {E X : List Ps} {l : List (Int × Int)} {k j : Nat} (hj : j < k) (h : (l.getD j (0, 0)).2 = (l.getD k (0, 0)).2) : okAt E X l k = false := by
  unfold okAt otherX
  rw [Bool.and_eq_false_iff]
  right
  rw [List.all_eq_false]
  exact ⟨j, List.mem_range.2 hj, by rw [h]; simp⟩
theorem okAt_good {E X : List Ps} {l : List (Int × Int)} {k : Nat} (h : okP E X (prevE l k) (l.getD k (0, 0)) = true) (ho : ∀ j, j < k → ¬ (l.getD j (0, 0)).2 = (l.getD k (0, 0)).2) : okAt E X l k = true := by
  unfold okAt otherX
  rw [h, Bool.true_and, List.all_eq_true]
  exact fun j hj => by simpa using ho j (List.mem_range.1 hj)
theorem prevE_zero (l : List (Int × Int)) : prevE l 0 = -1 := rfl
theorem prevE_pos {l : List (Int × Int)} {k : Nat} (h : 0 < k) : prevE l k = (l.getD (k - 1) (0, 0)).1 := by unfold prevE; rw [if_neg (by omega)]

set_option maxRecDepth 100000 in
set_option maxHeartbeats 16000000 in
theorem RPairs_any (oe ox op : Option Addr) (ce cx cp : Nat) (E X : List Ps) (l : List (Int × Int)) (w : World) (he : Pss w oe E) (hx : Pss w ox X) (hp : Twos w op l) (_hle : E.length ≤ 9000000000000000000) (_hlx : X.length ≤ 9000000000000000000) (hlp : l.length ≤ 9000000000000000000) :
    Calls Tryd.prog 32 #[.slice oe E.length ce, .slice ox X.length cx, .slice op l.length cp] w (Ret (.bool (pairsR E X l)) w) := by
  have HE := Lib.hid he
  have HX := Lib.hid hx
  have HP := Lib.hid hp
  clear he hx hp
  go_enter Tryd.func32, Tryd.ntmps32
  go_wp2
  go_loopw [7] (fun i wr => ∃ (k : Nat), k ≤ l.length ∧ i = .int .i64 k ∧ (∀ j, j < k → okAt E X l j = true) ∧ Below w.heap.size w wr) (fun i _ => l.length - (intOf i).toNat)
  case atStart => exact ⟨0, Nat.zero_le _, rfl, fun j hj => absurd hj (Nat.not_lt_zero _), Below.refl _ _⟩
  case round =>
    obtain ⟨k, hk, rfl, hz, hb⟩ := hrel
    have HZ := Lib.hid hz
    have HB := Lib.hid hb
    clear hz hb
    by_cases hlt : k < l.length
    · have HBAD := Lib.hid (fun (h : okP E X (prevE l k) (l.getD k (0, 0)) = false) => pairsR_bad (E := E) (X := X) hlt (okP_bad h))
      have HDUP := Lib.hid (fun (j : Nat) (hj : j < k) (h : (l.getD j (0, 0)).2 = (l.getD k (0, 0)).2) => pairsR_bad (E := E) (X := X) hlt (otherX_bad hj h))
      have HGOOD := Lib.hid (fun (h : okP E X (prevE l k) (l.getD k (0, 0)) = true) (ho : ∀ j, j < k → ¬ (l.getD j (0, 0)).2 = (l.getD k (0, 0)).2) => okAt_good h ho)
      obtain ⟨gp, fp, hgo, c0, c1⟩ := (HP.out.later HB.out) k hlt
      subst hgo
      have HPC := Lib.hid (fun (j : Nat) (hj : j < l.length) (w' : World) (hb' : Below wr.heap.size wr w') => show w'.cell? ⟨gp, fp + j * 2, none⟩ = some (.int .i64 (l.getD j (0, 0)).1) ∧ w'.cell? ⟨gp, fp + j * 2 + 1, none⟩ = some (.int .i64 (l.getD j (0, 0)).2) from by
        obtain ⟨g2, f2, hgo, e0, e1⟩ := (HP.out.later (below_step HB.out hb')) j hj
        injection hgo with hgo
        injection hgo with h1 h2
        subst h1; subst h2
        exact ⟨e0, e1⟩)
      obtain ⟨p, hp⟩ : ∃ p, l.getD k (0, 0) = p := ⟨_, rfl⟩
      rw [hp] at c0 c1 HBAD HDUP HGOOD
      clear hp
      have y1 : (0 : Int) ≤ (k : Int) := by omega
      have y2 : (k : Int) < (l.length : Int) := by omega
      go_upto_region 5 with (fail)
      obtain ⟨W8, hW8⟩ : ∃ W8, W8 = wr.alloc (.cells #[.int .i64 p.1, .int .i64 p.2] 48) := ⟨_, rfl⟩
      have HP8 := Lib.hid (show Blk W8 wr.heap.size 48 #[.int .i64 p.1, .int .i64 p.2] by rw [hW8]; exact Blk.new _ _ _)
      have HBb := Lib.hid (show Below wr.heap.size wr W8 by rw [hW8]; exact below_alloc (Below.refl _ _) _)
      rw [← hW8]
      clear hW8 c0 c1
      have HB8 := Lib.hid (below_step HB.out HBb.out)
      obtain ⟨PB, hPB⟩ : ∃ B, wr.heap.size = B := ⟨_, rfl⟩
      rw [hPB] at HP8 ⊢
      clear hPB
      have p0 := HP8.out.cell 0
      have p1 := HP8.out.cell 1
      by_cases h1 : p.1 < 0
      · have d1 : decide (p.1 < 0) = true := decide_eq_true h1
        have HR := Lib.hid (HBAD.out (by unfold okP; rw [decide_eq_false (show ¬ 0 ≤ p.1 by omega)]; simp))
        go_quiet (fail)
        go_wp2
        go_ret
        exact ⟨by rw [HR.out]; rfl, below_step HB8.out (below_drewN (Below.refl _ _) _)⟩
      have d1 : decide (p.1 < 0) = false := decide_eq_false h1
      by_cases h2 : (E.length : Int) ≤ p.1
      · have d2 : decide ((E.length : Int) ≤ p.1) = true := decide_eq_true h2
        have HR := Lib.hid (HBAD.out (by unfold okP; rw [decide_eq_false (show ¬ p.1 < (E.length : Int) by omega)]; simp))
        go_quiet (fail)
        go_wp2
        go_ret
        exact ⟨by rw [HR.out]; rfl, below_step HB8.out (below_drewN (Below.refl _ _) _)⟩
      have d2 : decide ((E.length : Int) ≤ p.1) = false := decide_eq_false h2
      by_cases h3 : p.2 < 0
      · have d3 : decide (p.2 < 0) = true := decide_eq_true h3
        have HR := Lib.hid (HBAD.out (by unfold okP; rw [decide_eq_false (show ¬ 0 ≤ p.2 by omega)]; simp))
        go_quiet (fail)
        go_wp2
        go_ret
        exact ⟨by rw [HR.out]; rfl, below_step HB8.out (below_drewN (Below.refl _ _) _)⟩
      have d3 : decide (p.2 < 0) = false := decide_eq_false h3
      by_cases h4 : (X.length : Int) ≤ p.2
      · have d4 : decide ((X.length : Int) ≤ p.2) = true := decide_eq_true h4
        have HR := Lib.hid (HBAD.out (by unfold okP; rw [decide_eq_false (show ¬ p.2 < (X.length : Int) by omega)]; simp))
        go_quiet (fail)
        go_wp2
        go_ret
        exact ⟨by rw [HR.out]; rfl, below_step HB8.out (below_drewN (Below.refl _ _) _)⟩
      have d4 : decide ((X.length : Int) ≤ p.2) = false := decide_eq_false h4
      obtain ⟨p1', p2'⟩ := p
      obtain ⟨i, rfl⟩ : ∃ i : Nat, p1' = (i : Int) := ⟨p1'.toNat, by simp only at h1; omega⟩
      obtain ⟨j, rfl⟩ : ∃ j : Nat, p2' = (j : Int) := ⟨p2'.toNat, by simp only at h3; omega⟩
      simp only at h1 h2 h3 h4 d1 d2 d3 d4 p0 p1
      have hi : i < E.length := by omega
      have hj : j < X.length := by omega
      have z1 : (0 : Int) ≤ (i : Int) := by omega
      have z2 : (i : Int) < (E.length : Int) := by omega
      have z3 : (0 : Int) ≤ (j : Int) := by omega
      have z4 : (j : Int) < (X.length : Int) := by omega
      obtain ⟨ge, fe, hgo, e0, e1⟩ := (HE.out.later HB8.out) i hi
      subst hgo
      obtain ⟨pe, hpe⟩ : ∃ p, E.getD i Ps.zero = p := ⟨_, rfl⟩
      rw [hpe] at e0 e1
      obtain ⟨gx, fx, hgo, x0, x1⟩ := (HX.out.later HB8.out) j hj
      subst hgo
      obtain ⟨px, hpx⟩ : ∃ p, X.getD j Ps.zero = p := ⟨_, rfl⟩
      rw [hpx] at x0 x1
      have HPE := Lib.hid hpe
      have HPX := Lib.hid hpx
      clear hpe hpx e0 x0
      have HOK := Lib.hid (show ∀ b : Int, okP E X b ((i : Int), (j : Int)) = (decide (b < (i : Int)) && decide (pe.mn < px.mn)) from fun b => by unfold okP; simp only [Int.toNat_natCast, HPE.out, HPX.out]; rw [decide_eq_true z1, decide_eq_true z2, decide_eq_true z3, decide_eq_true z4]; simp)
      have HIN : Hid (∀ (wk : World), Below W8.heap.size W8 wk → okP E X (prevE l k) ((i : Int), (j : Int)) = true → True) := Lib.hid fun _ _ _ => trivial
      clear HIN
      rcases Nat.eq_zero_or_pos k with hk0 | hk0
      · have d5 : decide ((0 : Int) < (k : Int)) = false := decide_eq_false (by omega)
        have d5' : decide (0 < k) = false := decide_eq_false (by omega)
        have HPV := Lib.hid (show decide (prevE l k < (i : Int)) = true from by rw [hk0, prevE_zero]; exact decide_eq_true (by omega))
        clear hk0
        by_cases hmn : px.mn ≤ pe.mn
        · have hd : decide (px.mn ≤ pe.mn) = true := decide_eq_true hmn
          have HR := Lib.hid (HBAD.out (by rw [HOK.out, decide_eq_false (show ¬ pe.mn < px.mn by omega), Bool.and_false]))
          go_quiet (fail)
          go_wp2
          go_ret
          exact ⟨by rw [HR.out]; rfl, below_step HB8.out (below_drewN (Below.refl _ _) _)⟩
        have hd : decide (px.mn ≤ pe.mn) = false := decide_eq_false hmn
        have HOKP := Lib.hid (show okP E X (prevE l k) ((i : Int), (j : Int)) = true from by rw [HOK.out, HPV.out, decide_eq_true (show pe.mn < px.mn by omega)]; rfl)
        go_quiet (fail)
        clear d1 d2 d3 d4 hd hmn p0 p1 e1 x1 d5 d5'
        go_wp2
        have HB9 := Lib.hid (below_step HBb.out (below_drewN (Below.refl W8.heap.size W8) nq))
        obtain ⟨W9, hW9⟩ : ∃ W9, W9 = W8.drewN nq := ⟨_, rfl⟩
        have HP9 := Lib.hid (show Blk W9 PB 48 #[.int .i64 (i : Int), .int .i64 (j : Int)] from by rw [hW9]; exact HP8.out.drewN _)
        rw [← hW9] at HB9 ⊢
        clear hW9 HP8 HB8 HBb
        go_loopw [9] (fun t wi => ∃ (n : Nat), n ≤ k ∧ t = .int .i64 n ∧ (∀ m, m < n → ¬ (l.getD m (0, 0)).2 = (j : Int)) ∧ Below W9.heap.size W9 wi) (fun t _ => k - (intOf t).toNat)
        case atStart => exact ⟨0, Nat.zero_le _, rfl, fun m hm => absurd hm (Nat.not_lt_zero _), Below.refl _ _⟩
        case round =>
          obtain ⟨n, hn, rfl, hnz, hbi⟩ := hrel
          obtain ⟨wi, rfl⟩ : ∃ wi : World, wi = wr := ⟨_, rfl⟩
          have HNZ := Lib.hid hnz
          have HBI := Lib.hid hbi
          clear hnz hbi
          by_cases hnk : n < k
          · obtain ⟨c0, c1⟩ := HPC.out n (by omega) wi (below_step HB9.out HBI.out)
            obtain ⟨q, hq⟩ : ∃ q, l.getD n (0, 0) = q := ⟨_, rfl⟩
            rw [hq] at c0 c1
            have p1 := (HP9.out.later HBI.out).cell 1
            have y3 : (0 : Int) ≤ (n : Int) := by omega
            have y4 : (n : Int) < (l.length : Int) := by omega
            have HQ := Lib.hid hq
            clear hq
            by_cases hqe : q.2 = (j : Int)
            · have HR := Lib.hid (HDUP.out n hnk (by rw [HQ.out]; exact hqe))
              have hqd : (q.2 == (j : Int)) = true := by simpa using hqe
              clear hqe
              go_wp2_with fail
              go_quiet (fail)
              go_wp2
              go_ret
              exact ⟨by rw [HR.out]; rfl, below_step HB.out (below_step HB9.out (below_step HBI.out (below_drewN (Below.refl _ _) _)))⟩
            · have hqd : (q.2 == (j : Int)) = false := by simpa using hqe
              have HNX := Lib.hid (show ∀ m, m < n + 1 → ¬ (l.getD m (0, 0)).2 = (j : Int) from fun m hm => by
                by_cases hmn : m = n
                · subst hmn; rw [HQ.out]; exact hqe
                · exact HNZ.out m (by omega))
              clear hqe
              go_wp2_with fail
              go_quiet (fail)
              go_wp2
              go_roundw
              case rel => exact ⟨n + 1, by omega, by go_num, HNX.out, below_step HBI.out (below_drewN (Below.refl _ _) _)⟩
              case measure => simp [intOf]; omega
          · obtain rfl : n = k := by omega
            have HNX := Lib.hid (show ∀ m, m < n + 1 → okAt E X l m = true from fun m hm => by
              by_cases hmn : m = n
              · subst hmn; exact HGOOD.out HOKP.out HNZ.out
              · exact HZ.out m (by omega))
            go_wp2
            go_roundw
            case rel => exact ⟨n + 1, by omega, by go_num, HNX.out, below_step HB.out (below_step HB9.out HBI.out)⟩
            case measure => simp [intOf]; omega
      · have d5 : decide ((0 : Int) < (k : Int)) = true := decide_eq_true (by omega)
        have d5' : decide (0 < k) = true := decide_eq_true hk0
        have q0 := (HPC.out (k - 1) (by omega) W8 HBb.out).1
        have HPE2 := Lib.hid (prevE_pos (l := l) hk0)
        obtain ⟨pv, hpv⟩ : ∃ x, (l.getD (k - 1) (0, 0)).1 = x := ⟨_, rfl⟩
        rw [hpv] at q0 HPE2
        clear hpv
        have y5 : (0 : Int) ≤ (k : Int) - 1 := by omega
        have y6 : (k : Int) - 1 < (l.length : Int) := by omega
        by_cases hpp : (i : Int) ≤ pv
        · have d6 : decide ((i : Int) ≤ pv) = true := decide_eq_true hpp
          have HR := Lib.hid (HBAD.out (by rw [HOK.out, HPE2.out, decide_eq_false (show ¬ pv < (i : Int) by omega), Bool.false_and]))
          go_quiet (fail)
          go_wp2
          go_ret
          exact ⟨by rw [HR.out]; rfl, below_step HB8.out (below_drewN (Below.refl _ _) _)⟩
        have d6 : decide ((i : Int) ≤ pv) = false := decide_eq_false hpp
        have HPV := Lib.hid (show decide (prevE l k < (i : Int)) = true from by rw [HPE2.out]; exact decide_eq_true (by omega))
        by_cases hmn : px.mn ≤ pe.mn
        · have hd : decide (px.mn ≤ pe.mn) = true := decide_eq_true hmn
          have HR := Lib.hid (HBAD.out (by rw [HOK.out, decide_eq_false (show ¬ pe.mn < px.mn by omega), Bool.and_false]))
          go_quiet (fail)
          go_wp2
          go_ret
          exact ⟨by rw [HR.out]; rfl, below_step HB8.out (below_drewN (Below.refl _ _) _)⟩
        have hd : decide (px.mn ≤ pe.mn) = false := decide_eq_false hmn
        have HOKP := Lib.hid (show okP E X (prevE l k) ((i : Int), (j : Int)) = true from by rw [HOK.out, HPV.out, decide_eq_true (show pe.mn < px.mn by omega)]; rfl)
        go_quiet (fail)
        clear d1 d2 d3 d4 hd hmn p0 p1 e1 x1 d5 d5' d6 q0 y5 y6
        go_wp2
        have HB9 := Lib.hid (below_step HBb.out (below_drewN (Below.refl W8.heap.size W8) nq))
        obtain ⟨W9, hW9⟩ : ∃ W9, W9 = W8.drewN nq := ⟨_, rfl⟩
        have HP9 := Lib.hid (show Blk W9 PB 48 #[.int .i64 (i : Int), .int .i64 (j : Int)] from by rw [hW9]; exact HP8.out.drewN _)
        rw [← hW9] at HB9 ⊢
        clear hW9 HP8 HB8 HBb
        go_loopw [9] (fun t wi => ∃ (n : Nat), n ≤ k ∧ t = .int .i64 n ∧ (∀ m, m < n → ¬ (l.getD m (0, 0)).2 = (j : Int)) ∧ Below W9.heap.size W9 wi) (fun t _ => k - (intOf t).toNat)
        case atStart => exact ⟨0, Nat.zero_le _, rfl, fun m hm => absurd hm (Nat.not_lt_zero _), Below.refl _ _⟩
        case round =>
          obtain ⟨n, hn, rfl, hnz, hbi⟩ := hrel
          obtain ⟨wi, rfl⟩ : ∃ wi : World, wi = wr := ⟨_, rfl⟩
          have HNZ := Lib.hid hnz
          have HBI := Lib.hid hbi
          clear hnz hbi
          by_cases hnk : n < k
          · obtain ⟨c0, c1⟩ := HPC.out n (by omega) wi (below_step HB9.out HBI.out)
            obtain ⟨q, hq⟩ : ∃ q, l.getD n (0, 0) = q := ⟨_, rfl⟩
            rw [hq] at c0 c1
            have p1 := (HP9.out.later HBI.out).cell 1
            have y3 : (0 : Int) ≤ (n : Int) := by omega
            have y4 : (n : Int) < (l.length : Int) := by omega
            have HQ := Lib.hid hq
            clear hq
            by_cases hqe : q.2 = (j : Int)
            · have HR := Lib.hid (HDUP.out n hnk (by rw [HQ.out]; exact hqe))
              have hqd : (q.2 == (j : Int)) = true := by simpa using hqe
              clear hqe
              go_wp2_with fail
              go_quiet (fail)
              go_wp2
              go_ret
              exact ⟨by rw [HR.out]; rfl, below_step HB.out (below_step HB9.out (below_step HBI.out (below_drewN (Below.refl _ _) _)))⟩
            · have hqd : (q.2 == (j : Int)) = false := by simpa using hqe
              have HNX := Lib.hid (show ∀ m, m < n + 1 → ¬ (l.getD m (0, 0)).2 = (j : Int) from fun m hm => by
                by_cases hmn : m = n
                · subst hmn; rw [HQ.out]; exact hqe
                · exact HNZ.out m (by omega))
              clear hqe
              go_wp2_with fail
              go_quiet (fail)
              go_wp2
              go_roundw
              case rel => exact ⟨n + 1, by omega, by go_num, HNX.out, below_step HBI.out (below_drewN (Below.refl _ _) _)⟩
              case measure => simp [intOf]; omega
          · obtain rfl : n = k := by omega
            have HNX := Lib.hid (show ∀ m, m < n + 1 → okAt E X l m = true from fun m hm => by
              by_cases hmn : m = n
              · subst hmn; exact HGOOD.out HOKP.out HNZ.out
              · exact HZ.out m (by omega))
            go_wp2
            go_roundw
            case rel => exact ⟨n + 1, by omega, by go_num, HNX.out, below_step HB.out (below_step HB9.out HBI.out)⟩
            case measure => simp [intOf]; omega
    · obtain rfl : k = l.length := by omega
      have HV := Lib.hid (pairsR_good HZ.out)
      go_wp2
      go_ret
      exact ⟨by rw [HV.out]; rfl, HB.out⟩
end
section
open Go.RowKit
attribute [local go_sem] Oper.semAt_some

theorem validFrom_memR : ∀ {l : List Ps} {b : Int} {i : Nat}, validFrom b l = true → i < l.length → validS (l.getD i Ps.zero).s = true
  | [], _, _, _, h => by simp at h
  | p :: l, b, 0, h, _ => by
    simp only [validFrom, Bool.and_eq_true] at h
    exact h.1.1.1
  | p :: l, b, i + 1, h, hi => by
    simp only [validFrom, Bool.and_eq_true] at h
    have := validFrom_memR (i := i) h.2 (by simpa using hi)
    simpa using this
theorem validP_memR {l : List Ps} {i : Nat} (h : validP l = true) (hi : i < l.length) : validS (l.getD i Ps.zero).s = true := by
  unfold validP at h
  rw [Bool.and_eq_true] at h
  exact validFrom_memR h.2 hi
theorem distV_dP {p q : Ps} (hp : validS p.s = true) (hq : validS q.s = true) : distV p.s q.s = .tuple #[.int .i64 (dP p q), .int .i64 0] := by
  unfold distV dP
  rw [hp, hq]
  rfl
theorem dP_le20 (p q : Ps) : dP p q ≤ 20 := dP_le p q
theorem sumR_lo {E X : List Ps} {l : List (Int × Int)} : ∀ k, 0 ≤ sumR E X l k ∧ sumR E X l k ≤ 20 * (k : Int)
  | 0 => by simp [sumR]
  | k + 1 => by
    have := sumR_lo (E := E) (X := X) (l := l) k
    rw [sumR_succ]
    unfold dAt
    have h1 := dP_pos (E.getD (l.getD k (0, 0)).1.toNat Ps.zero) (X.getD (l.getD k (0, 0)).2.toNat Ps.zero)
    have h2 := dP_le20 (E.getD (l.getD k (0, 0)).1.toNat Ps.zero) (X.getD (l.getD k (0, 0)).2.toNat Ps.zero)
    omega
theorem pairsR_at {E X : List Ps} {l : List (Int × Int)} (h : pairsR E X l = true) {k : Nat} (hk : k < l.length) : ∃ i j : Nat, l.getD k (0, 0) = ((i : Int), (j : Int)) ∧ i < E.length ∧ j < X.length := by
  unfold pairsR at h
  rw [List.all_eq_true] at h
  have h1 := h k (List.mem_range.2 hk)
  unfold okAt okP at h1
  simp only [Bool.and_eq_true, decide_eq_true_eq] at h1
  obtain ⟨⟨⟨⟨⟨⟨p1, p2⟩, p3⟩, p4⟩, _⟩, _⟩, _⟩ := h1
  obtain ⟨x, y⟩ : ∃ x, x = l.getD k (0, 0) := ⟨_, rfl⟩
  rw [← y] at p1 p2 p3 p4 ⊢
  obtain ⟨a, b⟩ := x
  simp only at p1 p2 p3 p4
  exact ⟨a.toNat, b.toNat, by rw [Int.toNat_of_nonneg p1, Int.toNat_of_nonneg p3], by omega, by omega⟩
theorem costR_bad1 {E X : List Ps} {l : List (Int × Int)} (h : validP E = false) : costR E X l = none := by simp [costR, h]
theorem costR_bad2 {E X : List Ps} {l : List (Int × Int)} (h : validP X = false) : costR E X l = none := by simp [costR, h]
theorem costR_bad3 {E X : List Ps} {l : List (Int × Int)} (h : pairsR E X l = false) : costR E X l = none := by simp [costR, h]
theorem costR_good {E X : List Ps} {l : List (Int × Int)} (h1 : validP E = true) (h2 : validP X = true) (h3 : pairsR E X l = true) : costR E X l = some (5 * ((E.length : Int) + (X.length : Int) - 2 * (l.length : Int)) + sumR E X l l.length) := by simp [costR, h1, h2, h3]

set_option maxRecDepth 100000 in
set_option maxHeartbeats 16000000 in
theorem RCost_any (oe ox op : Option Addr) (ce cx cp : Nat) (E X : List Ps) (l : List (Int × Int)) (w : World) (he : Pss w oe E) (hx : Pss w ox X) (hp : Twos w op l) (hle : E.length ≤ 9000000000000000000) (hlx : X.length ≤ 9000000000000000000) (hlp : l.length ≤ 100) (hse : ∀ x ∈ E, x.s.size ≤ 9223372036854775807) (hsx : ∀ x ∈ X, x.s.size ≤ 9223372036854775807) :
    Calls Tryd.prog 16 #[.slice oe E.length ce, .slice ox X.length cx, .slice op l.length cp] w (Ret (optV (costR E X l)) w) := by
  have HE := Lib.hid he
  have HX := Lib.hid hx
  have HP := Lib.hid hp
  have HSE := Lib.hid hse
  have HSX := Lib.hid hsx
  clear he hx hp hse hsx
  have HLP := Lib.hid (show l.length ≤ 9000000000000000000 by omega)
  go_enter Tryd.func16, Tryd.ntmps16
  go_wp2_with fail
  refine (RValidL_any oe ce E w HE.out hle HSE.out).mono ?_
  rintro _ W2 ⟨rfl, hb⟩
  have HB2 := Lib.hid hb
  clear hb
  cases hve : validP E with
  | false =>
    have HC := Lib.hid (costR_bad1 (X := X) (l := l) hve)
    clear hve
    go_wp2
    refine bodyPost_ret (results_tmp2 rfl _ _ _) rfl ?_
    exact ⟨by rw [HC.out]; rfl, HB2.out⟩
  | true =>
  have HVE := Lib.hid hve
  clear hve
  go_wp2_with fail
  refine (RValidL_any ox cx X W2 (HX.out.later HB2.out) hlx HSX.out).mono ?_
  rintro _ W3 ⟨rfl, hb⟩
  have HB3 := Lib.hid (below_step HB2.out hb)
  clear hb HB2
  cases hvx : validP X with
  | false =>
    have HC := Lib.hid (costR_bad2 (E := E) (l := l) hvx)
    clear hvx
    go_wp2
    refine bodyPost_ret (results_tmp2 rfl _ _ _) rfl ?_
    exact ⟨by rw [HC.out]; rfl, HB3.out⟩
  | true =>
  have HVX := Lib.hid hvx
  clear hvx
  go_wp2_with fail
  refine (RPairs_any oe ox op ce cx cp E X l W3 (HE.out.later HB3.out) (HX.out.later HB3.out) (HP.out.later HB3.out) hle hlx HLP.out).mono ?_
  rintro _ W4 ⟨rfl, hb⟩
  have HB4 := Lib.hid (below_step HB3.out hb)
  clear hb HB3
  cases hvp : pairsR E X l with
  | false =>
    have HC := Lib.hid (costR_bad3 hvp)
    clear hvp
    go_wp2
    refine bodyPost_ret (results_tmp2 rfl _ _ _) rfl ?_
    exact ⟨by rw [HC.out]; rfl, HB4.out⟩
  | true =>
  have HVP := Lib.hid hvp
  clear hvp
  have HC := Lib.hid (costR_good HVE.out HVX.out HVP.out)
  have hE8 : E.length ≤ 8 := validP_len HVE.out
  have hX8 : X.length ≤ 8 := validP_len HVX.out
  have HS0 := Lib.hid (show 5 * ((E.length : Int) + (X.length : Int) - 2 * (l.length : Int)) = 5 * ((E.length : Int) + (X.length : Int) - 2 * (l.length : Int)) + sumR E X l 0 by simp [sumR])
  go_wp2
  go_loopw [8, 9] (fun c i wr => ∃ (k : Nat), k ≤ l.length ∧ i = .int .i64 k ∧ c = .int .i64 (5 * ((E.length : Int) + (X.length : Int) - 2 * (l.length : Int)) + sumR E X l k) ∧ Below w.heap.size w wr) (fun _ i _ => l.length - (intOf i).toNat)
  case atStart => exact ⟨0, Nat.zero_le _, rfl, by rw [← HS0.out], HB4.out⟩
  case round =>
    obtain ⟨k, hk, rfl, rfl, hb⟩ := hrel
    have HB := Lib.hid hb
    clear hb HB4 HS0
    have hsl := sumR_lo (E := E) (X := X) (l := l) k
    by_cases hlt : k < l.length
    · have HSS := Lib.hid (sumR_succ (E := E) (X := X) (l := l) k)
      obtain ⟨Sk, hSk⟩ : ∃ s, sumR E X l k = s := ⟨_, rfl⟩
      rw [hSk] at hsl HSS
      rw [hSk]
      clear hSk
      obtain ⟨i, j, hij, hi, hj⟩ := pairsR_at HVP.out hlt
      have HDA := Lib.hid (show dAt E X l k = dP (E.getD i Ps.zero) (X.getD j Ps.zero) by unfold dAt; rw [hij]; simp only [Int.toNat_natCast])
      obtain ⟨gp, fp, hgo, c0, c1⟩ := (HP.out.later HB.out) k hlt
      subst hgo
      rw [hij] at c0 c1
      clear hij
      obtain ⟨ge, fe, hgo, e0, e1⟩ := (HE.out.later HB.out) i hi
      subst hgo
      obtain ⟨gx, fx, hgo, x0, x1⟩ := (HX.out.later HB.out) j hj
      subst hgo
      have HV1 := Lib.hid (distV_dP (validP_memR HVE.out hi) (validP_memR HVX.out hj))
      have HZ1 := Lib.hid (show (E.getD i Ps.zero).s.size ≤ 9223372036854775807 from HSE.out _ (by rw [List.getD_eq_getElem?_getD, List.getElem?_eq_getElem hi]; exact List.getElem_mem hi))
      have HZ2 := Lib.hid (show (X.getD j Ps.zero).s.size ≤ 9223372036854775807 from HSX.out _ (by rw [List.getD_eq_getElem?_getD, List.getElem?_eq_getElem hj]; exact List.getElem_mem hj))
      obtain ⟨pe, hpe⟩ : ∃ p, E.getD i Ps.zero = p := ⟨_, rfl⟩
      obtain ⟨px, hpx⟩ : ∃ p, X.getD j Ps.zero = p := ⟨_, rfl⟩
      rw [hpe] at e0 e1 HDA HV1 HZ1
      rw [hpx] at x0 x1 HDA HV1 HZ2
      clear hpe hpx
      have hd1 := dP_pos pe px
      have hd2 := dP_le20 pe px
      obtain ⟨dd, hdd⟩ : ∃ d, dP pe px = d := ⟨_, rfl⟩
      rw [hdd] at hd1 hd2 HDA HV1
      clear hdd
      have HC0 := Lib.hid c0
      have HC1 := Lib.hid c1
      have HE0 := Lib.hid e0
      have HX0 := Lib.hid x0
      clear c0 c1 e0 e1 x0 x1
      have y1 : (0 : Int) ≤ (k : Int) := by omega
      have y2 : (k : Int) < (l.length : Int) := by omega
      have y3 : (0 : Int) ≤ (i : Int) := by omega
      have y4 : (i : Int) < (E.length : Int) := by omega
      have y5 : (0 : Int) ≤ (j : Int) := by omega
      have y6 : (j : Int) < (X.length : Int) := by omega
      have HNX := Lib.hid (show sumR E X l (k + 1) = Sk + dd by rw [HSS.out, HDA.out])
      clear HSS HDA
      go_upto_region 7 with (fail)
      refine wp_region_B 24 (fun w'' => Below wr.heap.size wr w'') mixed (by kernel_rfl) (below_closed wr) (Below.refl _ _).drew ?_
      simp only [List.take_succ_cons, List.take_zero, List.drop_succ_cons, List.drop_zero]
      intro KR hR
      have HR := Lib.hid hR
      clear hR
      have HCC := Lib.hid (show ∀ w'', Below wr.heap.size wr w'' → w''.cell? ⟨gp, fp + k * 2, none⟩ = some (.int .i64 (i : Int)) ∧ w''.cell? ⟨gp, fp + k * 2 + 1, none⟩ = some (.int .i64 (j : Int)) ∧ w''.cell? ⟨ge, fe + i * 2, none⟩ = some (.string pe.s) ∧ w''.cell? ⟨gx, fx + j * 2, none⟩ = some (.string px.s) from fun w'' hw => ⟨cell_kept hw HC0.out, cell_kept hw HC1.out, cell_kept hw HE0.out, cell_kept hw HX0.out⟩)
      ((with_reducible refine wpB_move ?_ ?_); exact rfl; simp only [Act.put, List.setIfInBounds_toArray, List.set_cons_zero, List.set_cons_succ])
      ((with_reducible refine wpB_move ?_ ?_); exact rfl; simp only [Act.put, List.setIfInBounds_toArray, List.set_cons_zero, List.set_cons_succ])
      ((with_reducible refine wpB_move ?_ ?_); exact rfl; simp only [Act.put, List.setIfInBounds_toArray, List.set_cons_zero, List.set_cons_succ])
      apply wpB_val rfl
      · (intro w' hw'; go_simp; with_reducible rfl)
      simp only [Act.put, List.setIfInBounds_toArray, List.set_cons_zero, List.set_cons_succ]
      apply wpB_val rfl
      · (intro w' hw'; go_simp; with_reducible rfl)
      simp only [Act.put, List.setIfInBounds_toArray, List.set_cons_zero, List.set_cons_succ]
      apply wpB_val rfl
      · (intro w' hw'; obtain ⟨c0, c1, c2, c3⟩ := HCC.out w' hw'; go_simp; with_reducible rfl)
      simp only [Act.put, List.setIfInBounds_toArray, List.set_cons_zero, List.set_cons_succ]
      apply wpB_val rfl
      · (intro w' hw'; go_simp; with_reducible rfl)
      simp only [Act.put, List.setIfInBounds_toArray, List.set_cons_zero, List.set_cons_succ]
      apply wpB_val rfl
      · (intro w' hw'; go_simp; with_reducible rfl)
      simp only [Act.put, List.setIfInBounds_toArray, List.set_cons_zero, List.set_cons_succ]
      apply wpB_val rfl
      · (intro w' hw'; obtain ⟨c0, c1, c2, c3⟩ := HCC.out w' hw'; go_simp; with_reducible rfl)
      simp only [Act.put, List.setIfInBounds_toArray, List.set_cons_zero, List.set_cons_succ]
      ((with_reducible refine wpB_move ?_ ?_); exact rfl; simp only [Act.put, List.setIfInBounds_toArray, List.set_cons_zero, List.set_cons_succ])
      ((with_reducible refine wpB_move ?_ ?_); exact rfl; simp only [Act.put, List.setIfInBounds_toArray, List.set_cons_zero, List.set_cons_succ])
      ((with_reducible refine wpB_move ?_ ?_); exact rfl; simp only [Act.put, List.setIfInBounds_toArray, List.set_cons_zero, List.set_cons_succ])
      apply wpB_val rfl
      · (intro w' hw'; go_simp; with_reducible rfl)
      simp only [Act.put, List.setIfInBounds_toArray, List.set_cons_zero, List.set_cons_succ]
      apply wpB_val rfl
      · (intro w' hw'; go_simp; with_reducible rfl)
      simp only [Act.put, List.setIfInBounds_toArray, List.set_cons_zero, List.set_cons_succ]
      apply wpB_val rfl
      · (intro w' hw'; obtain ⟨c0, c1, c2, c3⟩ := HCC.out w' hw'; go_simp; with_reducible rfl)
      simp only [Act.put, List.setIfInBounds_toArray, List.set_cons_zero, List.set_cons_succ]
      apply wpB_val rfl
      · (intro w' hw'; go_simp; with_reducible rfl)
      simp only [Act.put, List.setIfInBounds_toArray, List.set_cons_zero, List.set_cons_succ]
      apply wpB_val rfl
      · (intro w' hw'; go_simp; with_reducible rfl)
      simp only [Act.put, List.setIfInBounds_toArray, List.set_cons_zero, List.set_cons_succ]
      apply wpB_val rfl
      · (intro w' hw'; obtain ⟨c0, c1, c2, c3⟩ := HCC.out w' hw'; go_simp; with_reducible rfl)
      simp only [Act.put, List.setIfInBounds_toArray, List.set_cons_zero, List.set_cons_succ]
      apply wpB_call 30 #[.string pe.s, .string px.s] rfl (v := .tuple #[.int .i64 dd, .int .i64 0])
      · (intro w'; go_simp)
      · exact fun w' hw' => (HV1.out ▸ RDistance_any pe.s px.s w' HZ1.out HZ2.out)
      simp only [Act.put, List.setIfInBounds_toArray, List.set_cons_zero, List.set_cons_succ]
      ((with_reducible refine wpB_move ?_ ?_); exact rfl; simp only [Act.put, List.setIfInBounds_toArray, List.set_cons_zero, List.set_cons_succ])
      apply wpB_val rfl
      · (intro w' hw'; go_simp; with_reducible rfl)
      simp only [Act.put, List.setIfInBounds_toArray, List.set_cons_zero, List.set_cons_succ]
      apply wpB_val rfl
      · (intro w' hw'; go_simp; with_reducible rfl)
      simp only [Act.put, List.setIfInBounds_toArray, List.set_cons_zero, List.set_cons_succ]
      apply wpB_val rfl
      · (intro w' hw'; go_simp; with_reducible rfl)
      simp only [Act.put, List.setIfInBounds_toArray, List.set_cons_zero, List.set_cons_succ]
      apply wpB_val rfl
      · (intro w' hw'; go_simp; with_reducible rfl)
      simp only [Act.put, List.setIfInBounds_toArray, List.set_cons_zero, List.set_cons_succ]
      refine wpB_nil (HR.out _ (fun w2 hw2 => ?_))
      clear HR HCC
      have HBf := Lib.hid (below_step HB.out hw2)
      clear hw2 HB HC0 HC1 HE0 HX0 HV1
      go_wp2
      go_roundw
      case rel => exact ⟨k + 1, by omega, by go_num, by rw [HNX.out]; go_num, HBf.out⟩
      case measure => simp [intOf]; omega
    · obtain rfl : k = l.length := by omega
      clear hsl
      go_wp2
      refine bodyPost_ret (results_tmp2 rfl _ _ _) rfl ?_
      exact ⟨by rw [HC.out]; rfl, HB.out⟩
end
section
open Go.RowKit
attribute [local go_sem] Oper.semAt_some

/-- append(s, x), one element in a block of its own; where the new row lies. -/
theorem wp_append1R {P : Program} {w2 wr : World} {t e : TypeId} {size bytes : Nat} {v : Value} {n : Nat} {xs news : List Value} {ops : Array Oper} {rest : List Oper} {o : Oper} {a : Act} {Q : Exit → Act → World → Prop} (hI : ElemI P t e size bytes) (hG : Row w2 wr e size v n xs)
    (hn : n + 1 ≤ 1000000000) (hb : bytes ≤ 100000) (hlen : news.length = size) (h1 : ∀ u ∈ news, u.oneCell' = true)
    (hgd : o.guard = none) (s x : Operand) (ho : o.op = .call { callee := .builtin .append, args := #[s, x], argTypes := #[t, t] }) (hs : a.eval s = v) {B : Nat} (hB : B = wr.heap.size) (hx : a.eval x = .slice (some ⟨B, 0, none⟩) 1 1)
    (h : ∀ v' w', Row w2 w' e size v' (n + 1) (xs ++ news) → (wr.alloc (.cells news.toArray e)).grownBy w' v.ownBlock → (v'.ownBlock = v.ownBlock ∨ v'.ownBlock = some (wr.heap.size + 1)) → wpList P ops Q rest (a.put o.dst v') w') : wpList P ops Q (o :: rest) a (wr.alloc (.cells news.toArray e)) := by
  subst hB
  obtain ⟨i, z, hi, hz, h2, h3, h4⟩ := hI.info
  refine wpList_append_own_at (wr.alloc (.cells news.toArray e)) hgd s x t ho w2.heap.size e i z size bytes hI.under hi hz h2 h3 h4 hI.pos v n xs hs (hG.own.alloc _) ⟨wr.heap.size, 0, none⟩ 1 1 news hx (by rw [hlen, Nat.one_mul]) ?_ h1 ?_ ?_ ?_ ?_
  · intro j u hj
    have := (Blk.new wr e news.toArray).cell j
    rw [Addr.add_lit, Nat.zero_add]
    exact this.trans (by simpa using hj)
  · simp only [maxLen]; omega
  · have := Nat.mul_le_mul hn hb
    omega
  · rw [World.size_alloc]
    have := hG.below.size
    omega
  · intro v' w' hown hgrow _ hat
    exact h v' w' ((hG.alloc _).app hown hgrow) hgrow (by rw [World.size_alloc] at hat; exact hat)


theorem elemC : ElemI Tryd.prog 59 62 2 32 := ElemI.of Tryd.underlying59 (by kernel_rfl) (by decide)
/-- A choice, and where its pairs lie. -/
structure ChA where
  f : Fd
  o : Option Addr
  cap : Nat
def ChA.zero : ChA := ⟨⟨[], 0⟩, none, 0⟩
@[reducible] def chC (a : ChA) : List Value := [.slice a.o a.f.pairs.length a.cap, .int .i64 a.f.cost]
def flatC (l : List ChA) : List Value := l.flatMap chC
def getC (l : List ChA) (i : Nat) : ChA := l.getD i ChA.zero
theorem flatC_append (l l' : List ChA) : flatC (l ++ l') = flatC l ++ flatC l' := by simp [flatC]
theorem flatC_one (a : ChA) : flatC [a] = chC a := by simp [flatC]
theorem flatC_length : ∀ (l : List ChA), (flatC l).length = l.length * 2
  | [] => rfl
  | m :: l => by
    have := flatC_length l
    show (chC m ++ flatC l).length = _
    simp only [List.length_append, List.length_cons, List.length_nil, this]
    omega
theorem flatC_get : ∀ (l : List ChA) (i : Nat), i < l.length → (flatC l)[i * 2]? = some (.slice (getC l i).o (getC l i).f.pairs.length (getC l i).cap) ∧ (flatC l)[i * 2 + 1]? = some (.int .i64 (getC l i).f.cost)
  | [], i, h => by simp at h
  | m :: l, 0, _ => ⟨rfl, rfl⟩
  | m :: l, i + 1, h => by
    have := flatC_get l i (by simpa using h)
    have e : getC (m :: l) (i + 1) = getC l i := rfl
    rw [e]
    show (chC m ++ flatC l)[_]? = _ ∧ (chC m ++ flatC l)[_]? = _
    refine ⟨?_, ?_⟩
    · rw [List.getElem?_append_right (by simp; omega)]
      simpa [show (i + 1) * 2 - 2 = i * 2 by omega] using this.1
    · rw [List.getElem?_append_right (by simp; omega)]
      simpa [show (i + 1) * 2 + 1 - 2 = i * 2 + 1 by omega] using this.2
theorem getC_mem {l : List ChA} {i : Nat} (h : i < l.length) : getC l i ∈ l := by
  have : getC l i = l[i] := by simp [getC, h]
  rw [this]
  exact List.getElem_mem h
theorem getC_left {l l' : List ChA} {i : Nat} (h : i < l.length) : getC (l ++ l') i = getC l i := by simp [getC, List.getElem?_append_left h]
theorem getC_last (l : List ChA) (a : ChA) : getC (l ++ [a]) l.length = a := by simp [getC]
theorem chC_one (a : ChA) : ∀ u ∈ chC a, u.oneCell' = true := fun u hu => by simp at hu; rcases hu with rfl | rfl <;> rfl
structure GoodC (w : World) (a : ChA) : Prop where
  tw : Twos w a.o (toI a.f.pairs)
  cap : a.f.pairs.length ≤ a.cap
/-- The pairs lie in another block than the row v. -/
def ApC (v : Value) (a : ChA) : Prop := ∀ p : Addr, a.o = some p → 0 < a.f.pairs.length → v.ownBlock ≠ some p.block
section
variable {w w' W wr W1 : World} {v v' : Value} {a : ChA} {n : Nat} {fs : Nat → Fd} {ls : List ChA}
theorem GoodC.later (h : GoodC w a) (hb : Below w.heap.size w w') : GoodC w' a := ⟨h.tw.later hb, h.cap⟩
theorem Twos.lt {o : Option Addr} {l : List (Int × Int)} (h : Twos w o l) (p : Addr) (ho : o = some p) (hl : 0 < l.length) : p.block < w.heap.size := by
  obtain ⟨b, off, ho', c0, _⟩ := h 0 hl
  rw [ho] at ho'
  injection ho' with ho'
  subst ho'
  exact cell_lt c0
theorem Twos.grown {o : Option Addr} {l : List (Int × Int)} {row : Option Nat} (h : Twos w o l) (hg : w.grownBy w' row) (hne : ∀ p : Addr, o = some p → 0 < l.length → row ≠ some p.block) : Twos w' o l := fun i hi => by
  obtain ⟨b, off, ho, c0, c1⟩ := h i hi
  have hk : w'.heap[b]? = w.heap[b]? := hg.block b (cell_lt c0) (fun e => hne _ ho (by omega) e.symm)
  exact ⟨b, off, ho, (World.cell?_of_block (a := ⟨b, _, none⟩) hk).trans c0, (World.cell?_of_block (a := ⟨b, _, none⟩) hk).trans c1⟩
theorem GoodC.lt (h : GoodC w a) (p : Addr) (ho : a.o = some p) (hl : 0 < a.f.pairs.length) : p.block < w.heap.size := h.tw.lt p ho (by rw [toI_length]; exact hl)
theorem GoodC.grown (h : GoodC w a) (ha : ApC v a) (hg : w.grownBy w' v.ownBlock) : GoodC w' a := ⟨h.tw.grown hg (fun p hp hl => ha p hp (by rw [toI_length] at hl; exact hl)), h.cap⟩
theorem ApC.move {j : Nat} (h : ApC v a) (hg : GoodC w a) (hn : v'.ownBlock = v.ownBlock ∨ v'.ownBlock = some j ∧ w.heap.size ≤ j) : ApC v' a := fun p hp hl e => by
  rcases hn with hn | ⟨hn, hs⟩
  · exact h p hp hl (hn ▸ e)
  · rw [hn] at e
    injection e with e
    have := hg.lt p hp hl
    omega
theorem GoodC.box (h : GoodC w a) {g : Nat} {t : TypeId} {o : Option Addr} {k c : Nat} {y : Int} (hb : Blk w g t #[.slice o k c, .int .i64 y]) (j : Nat) (u : Value) : GoodC (w.setCell ⟨g, j, none⟩ u) a := ⟨h.tw.apart hb j u, h.cap⟩

/-- A table of choices. -/
structure Tb (W wr : World) (v : Value) (n : Nat) (fs : Nat → Fd) (ls : List ChA) : Prop where
  len : ls.length = n
  eq : ∀ i, i < n → (getC ls i).f = fs i
  row : Row W wr 62 2 v n (flatC ls)
  good : ∀ a ∈ ls, GoodC wr a
  apart : ∀ a ∈ ls, ApC v a
theorem Tb.nil (h : Below W.heap.size W wr) (fs : Nat → Fd) : Tb W wr (.slice none 0 0) 0 fs [] := ⟨rfl, fun i hi => absurd hi (Nat.not_lt_zero _), Row.nil' h _ _, fun a ha => (by cases ha), fun a ha => by cases ha⟩
theorem Tb.later (h : Tb W wr v n fs ls) (hb : Below wr.heap.size wr w') : Tb W w' v n fs ls := ⟨h.len, h.eq, h.row.later hb, fun a ha => (h.good a ha).later hb, h.apart⟩
/-- One more. -/
theorem Tb.push (h : Tb W wr v n fs ls) (hW : Below wr.heap.size wr W1) (hga : GoodC W1 a) (haa : ApC v a) (hf : a.f = fs n) (hr : Row W w' 62 2 v' (n + 1) (flatC ls ++ chC a)) (hg : W1.grownBy w' v.ownBlock) (hn : v'.ownBlock = v.ownBlock ∨ v'.ownBlock = some W1.heap.size) : Tb W w' v' (n + 1) fs (ls ++ [a]) := by
  have hn' : ∀ b, GoodC W1 b → ApC v b → ApC v' b := fun b hb hab => hab.move (j := W1.heap.size) hb (hn.imp id (fun e => ⟨e, Nat.le_refl _⟩))
  refine ⟨by simp [h.len], fun i hi => ?_, hr.cast rfl (by rw [flatC_append, flatC_one]), fun b hb => ?_, fun b hb => ?_⟩
  · by_cases hi2 : i < n
    · rw [getC_left (by rw [h.len]; exact hi2)]
      exact h.eq i hi2
    · obtain rfl : i = n := by omega
      rw [← h.len, getC_last, h.len]
      exact hf
  · rcases List.mem_append.1 hb with hb | hb
    · exact ((h.good b hb).later hW).grown (h.apart b hb) hg
    · simp at hb
      subst hb
      exact hga.grown haa hg
  · rcases List.mem_append.1 hb with hb | hb
    · exact hn' b ((h.good b hb).later hW) (h.apart b hb)
    · simp at hb
      subst hb
      exact hn' _ hga haa
/-- Beside another table that grows. -/
theorem Tb.beside {u : Value} {m k : Nat} {gs : Nat → Fd} {xs : List Value} {e : TypeId} (h : Tb W wr u m gs ls) (hv : Row W wr e 2 v k xs) (hd : ∀ j, v.ownBlock = some j → u.ownBlock = some j → False) (ha : ∀ a ∈ ls, ApC v a) (hg : wr.grownBy w' v.ownBlock) : Tb W w' u m gs ls := by
  refine ⟨h.len, h.eq, ⟨h.row.own.kept (row := v.ownBlock) hg ?_, h.row.below.grown hg h.row.below.size (fun k hk => (hv.own.lt k hk).1)⟩, fun a h1 => (h.good a h1).grown (ha a h1) hg, h.apart⟩
  cases hu : u.ownBlock with
  | none => exact .inl rfl
  | some j => exact .inr (fun e => hd j e.symm hu)
/-- Beside a box that is written. -/
theorem Tb.box (h : Tb W wr v n fs ls) {g : Nat} {t : TypeId} {o : Option Addr} {k c : Nat} {y : Int} (hb : Blk wr g t #[.slice o k c, .int .i64 y]) (hg : v.ownBlock ≠ some g) (hW : W.heap.size ≤ g) (j : Nat) (u : Value) : Tb W (wr.setCell ⟨g, j, none⟩ u) v n fs ls := by
  have hgr : wr.grownBy (wr.setCell ⟨g, j, none⟩ u) (some g) := ⟨rfl, rfl, rfl, by simp, fun k _ hne => Below.heap_setCell wr ⟨g, j, none⟩ u k (fun e => hne (by rw [e]))⟩
  exact ⟨h.len, h.eq, ⟨h.row.own.kept (row := some g) hgr (.inr hg), h.row.below.setCell hW u⟩, fun a ha => (h.good a ha).box hb j u, h.apart⟩
theorem Tb.cells (h : Tb W wr v n fs ls) {i : Nat} (hi : i < n) : ∃ g cap, v = .slice (some ⟨g, 0, none⟩) n cap ∧ wr.cell? ⟨g, i * 2, none⟩ = some (.slice (getC ls i).o (fs i).pairs.length (getC ls i).cap) ∧ wr.cell? ⟨g, i * 2 + 1, none⟩ = some (.int .i64 (fs i).cost) := by
  obtain ⟨g, cap, rfl, _, _⟩ := h.row.some_of (by omega)
  obtain ⟨g0, g1⟩ := flatC_get ls i (by rw [h.len]; exact hi)
  rw [h.eq i hi] at g0 g1
  exact ⟨g, cap, rfl, by rw [h.row.cellAt _ (by omega)]; exact g0, by rw [h.row.cellAt _ (by omega)]; exact g1⟩
theorem Tb.cell2 {g cap : Nat} (h : Tb W wr (.slice (some ⟨g, 0, none⟩) n cap) n fs ls) {i : Nat} (hi : i < n) : wr.cell? ⟨g, i * 2, none⟩ = some (.slice (getC ls i).o (fs i).pairs.length (getC ls i).cap) ∧ wr.cell? ⟨g, i * 2 + 1, none⟩ = some (.int .i64 (fs i).cost) := by
  obtain ⟨g', cap', hv, h0, h1⟩ := h.cells hi
  injection hv with hv
  injection hv with hv
  injection hv with hv
  subst hv
  exact ⟨h0, h1⟩
theorem Tb.at (h : Tb W wr v n fs ls) {i : Nat} (hi : i < n) : GoodC wr ⟨fs i, (getC ls i).o, (getC ls i).cap⟩ := by
  have := h.good _ (getC_mem (l := ls) (i := i) (by rw [h.len]; exact hi))
  rw [← h.eq i hi]
  exact this

/-- The table that is read and the one that grows. -/
structure St37 (W wr : World) (vB vN : Value) (M t : Nat) (fB fN : Nat → Fd) (lsB lsN : List ChA) : Prop where
  b : Tb W wr vB M fB lsB
  n : Tb W wr vN t fN lsN
  dis : ∀ k, vN.ownBlock = some k → vB.ownBlock = some k → False
  bn : ∀ a ∈ lsB, ApC vN a
variable {vB vN : Value} {M t : Nat} {fB fN : Nat → Fd} {lsB lsN : List ChA}
theorem St37.later (h : St37 W wr vB vN M t fB fN lsB lsN) (hb : Below wr.heap.size wr w') : St37 W w' vB vN M t fB fN lsB lsN := ⟨h.b.later hb, h.n.later hb, h.dis, h.bn⟩
theorem St37.start (h : Tb W wr vB M fB lsB) (fN : Nat → Fd) : St37 W wr vB (.slice none 0 0) M 0 fB fN lsB [] := ⟨h, Tb.nil h.row.below fN, (fun k hk => by cases hk), fun a _ p _ _ => (by intro e; cases e)⟩
theorem St37.push (h : St37 W wr vB vN M t fB fN lsB lsN) (hW : Below wr.heap.size wr W1) (hga : GoodC W1 a) (haa : ApC vN a) (hf : a.f = fN t) (hr : Row W w' 62 2 v' (t + 1) (flatC lsN ++ chC a)) (hg : W1.grownBy w' vN.ownBlock) (hn : v'.ownBlock = vN.ownBlock ∨ v'.ownBlock = some W1.heap.size) : St37 W w' vB v' M (t + 1) fB fN lsB (lsN ++ [a]) := by
  have h1 := h.later hW
  refine ⟨h1.b.beside h1.n.row h1.dis h1.bn hg, h.n.push hW hga haa hf hr hg hn, fun k hk hk2 => ?_, fun b hb => (h1.bn b hb).move (j := W1.heap.size) (h1.b.good b hb) (hn.imp id (fun e => ⟨e, Nat.le_refl _⟩))⟩
  rcases hn with hn | hn
  · exact h1.dis k (by rw [← hn]; exact hk) hk2
  · rw [hn] at hk
    injection hk with hk
    have := (h1.b.row.own.lt k hk2).2
    omega

/-- Beside the tables: the box of the best so far. -/
structure Bx37 (W wr : World) (vB vN : Value) (M t : Nat) (fB fN : Nat → Fd) (lsB lsN : List ChA) (g : Nat) (c : ChA) : Prop where
  st : St37 W wr vB vN M t fB fN lsB lsN
  box : Blk wr g 62 #[.slice c.o c.f.pairs.length c.cap, .int .i64 c.f.cost]
  good : GoodC wr c
  ap : ApC vN c
  nb : vB.ownBlock ≠ some g
  nn : vN.ownBlock ≠ some g
  ge : W.heap.size ≤ g
variable {g : Nat} {c d : ChA}
theorem Bx37.later (h : Bx37 W wr vB vN M t fB fN lsB lsN g c) (hb : Below wr.heap.size wr w') : Bx37 W w' vB vN M t fB fN lsB lsN g c := ⟨h.st.later hb, h.box.later hb, h.good.later hb, h.ap, h.nb, h.nn, h.ge⟩
theorem Bx37.start (h : St37 W wr vB vN M t fB fN lsB lsN) {i : Nat} (hi : i < M) (y : Int) (hb : Below wr.heap.size wr w') (hg : wr.heap.size ≤ g) (hbx : Blk w' g 62 #[.slice (getC lsB i).o (fB i).pairs.length (getC lsB i).cap, .int .i64 y]) : Bx37 W w' vB vN M t fB fN lsB lsN g ⟨⟨(fB i).pairs, y⟩, (getC lsB i).o, (getC lsB i).cap⟩ := by
  have hm := getC_mem (l := lsB) (i := i) (by rw [h.b.len]; exact hi)
  have hga := (h.b.at hi).later hb
  refine ⟨h.later hb, hbx, ⟨hga.tw, hga.cap⟩, fun p hp hl => h.bn _ hm p hp (by rw [h.b.eq i hi]; exact hl), fun e => ?_, fun e => ?_, Nat.le_trans h.b.row.below.size hg⟩
  · have := (h.b.row.own.lt g e).2
    omega
  · have := (h.n.row.own.lt g e).2
    omega
theorem Bx37.set (h : Bx37 W wr vB vN M t fB fN lsB lsN g c) (hd : GoodC wr d) (ha : ApC vN d) : Bx37 W ((wr.setCell ⟨g, 0, none⟩ (.slice d.o d.f.pairs.length d.cap)).setCell ⟨g, 1, none⟩ (.int .i64 d.f.cost)) vB vN M t fB fN lsB lsN g d := by
  have hb1 : Blk (wr.setCell ⟨g, 0, none⟩ (.slice d.o d.f.pairs.length d.cap)) g 62 #[.slice d.o d.f.pairs.length d.cap, .int .i64 c.f.cost] := by simpa using h.box.set 0 (.slice d.o d.f.pairs.length d.cap)
  refine ⟨⟨(h.st.b.box h.box h.nb h.ge 0 _).box hb1 h.nb h.ge 1 _, (h.st.n.box h.box h.nn h.ge 0 _).box hb1 h.nn h.ge 1 _, h.st.dis, h.st.bn⟩, by simpa using hb1.set 1 (.int .i64 d.f.cost), (hd.box h.box 0 _).box hb1 1 _, ha, h.nb, h.nn, h.ge⟩
end
end
end Go.Proofs.YtmcodendnpjlaaaDoor
