/- Chapter 37: MatchBounds, MatchOneMore walked. -/
import Derived.Test.YtmcodendnpjlaaaDoorWm37
import Derived.Test.YtmcodendnpjlaaaDoorPlainD37
namespace Go.Proofs.YtmcodendnpjlaaaDoor
open Go.RowKit
attribute [local go_sem] Oper.semAt_some

theorem best_is (E X : List Ps) : Best (okE E X) (dE E X) E.length X.length 0 0 (best E X) := by
  have := lst_best (ok := okE E X) (d := dE E X) (n := E.length) (m := X.length) E.length (Nat.le_refl _) 0
  rwa [Nat.sub_self] at this
theorem validP_len {l : List Ps} (h : validP l = true) : l.length ≤ 8 := by unfold validP at h; simp at h; exact h.1
theorem both_valid {E X : List Ps} (h : (validP E && validP X) = true) : validP E = true ∧ validP X = true := by simpa using h

set_option maxRecDepth 100000 in
set_option maxHeartbeats 16000000 in
theorem MatchBounds_walk (w : World) (hT : Tab w) (oe : Option Addr) (ce : Nat) (E : List Ps) (he : Pss w oe E) (hle : E.length ≤ 6000000000000) (_hec : E.length ≤ ce) (ox : Option Addr) (cx : Nat) (X : List Ps) (hx : Pss w ox X) (hlx : X.length ≤ 6000000000000) (_hxc : X.length ≤ cx) :
    Calls Tryd.prog 9 #[.slice oe E.length ce, .slice ox X.length cx] w (Ret (.bool true) w) := by
  have HE := Lib.hid he
  have HX := Lib.hid hx
  have HT := Lib.hid hT
  clear he hx hT
  go_enter Tryd.func9, Tryd.ntmps9
  go_wp2_with fail
  refine (head_any w HT.out).mono ?_
  rintro _ W1 ⟨rfl, hb⟩
  have HB1 := Lib.hid hb
  clear hb
  go_wp2_with fail
  refine (Few_any oe ce E W1 (HE.out.later HB1.out) (by omega)).mono ?_
  rintro _ W2 ⟨rfl, hb⟩
  have HB2 := Lib.hid (below_step HB1.out hb)
  clear hb HB1
  cases hfe : fewP E with
  | false =>
    go_wp2
    go_ret
    exact ⟨rfl, HB2.out⟩
  | true =>
  go_wp2_with fail
  refine (Few_any ox cx X W2 (HX.out.later HB2.out) (by omega)).mono ?_
  rintro _ W3 ⟨rfl, hb⟩
  have HB3 := Lib.hid (below_step HB2.out hb)
  clear hb HB2
  cases hfx : fewP X with
  | false =>
    go_wp2
    go_ret
    exact ⟨rfl, HB3.out⟩
  | true =>
  go_wp2_with fail
  refine (Match_any oe ox ce cx E X W3 (HE.out.later HB3.out) (HX.out.later HB3.out) (HT.out.below HB3.out) (by omega) (by omega)).mono ?_
  rintro _ W4 ⟨hb, ⟨hv, oA, cA, rfl, hta⟩ | ⟨hv, rfl⟩⟩
  rotate_left
  · have HB4 := Lib.hid (below_step HB3.out hb)
    clear hb
    go_wp2
    go_ret
    exact ⟨rfl, HB4.out⟩
  have HB4 := Lib.hid (below_step HB3.out hb)
  have HA4 := Lib.hid hta
  have HV := Lib.hid hv
  clear hb hta hv HB3
  have HBB := Lib.hid (best_bounds (dE_pos E X) (best_is E X))
  have HE8 := validP_len (both_valid HV.out).1
  have HX8 := validP_len (both_valid HV.out).2
  obtain ⟨F, hF⟩ : ∃ F, best E X = F := ⟨_, rfl⟩
  rw [hF] at HBB HA4 ⊢
  clear hF HV HA4
  obtain ⟨k1, k2, k3⟩ := HBB.out
  have d1 : decide (F.cost ≤ 5 * ((E.length : Int) + (X.length : Int))) = true := decide_eq_true (by omega)
  by_cases hEX : (E.length : Int) ≤ (X.length : Int)
  · have m1 : max (E.length : Int) (X.length : Int) = (X.length : Int) := by omega
    have m2 : min (E.length : Int) (X.length : Int) = (E.length : Int) := by omega
    have m3 : ¬ (X.length : Int) < (E.length : Int) := by omega
    have d2 : decide (5 * ((X.length : Int) - (E.length : Int)) ≤ F.cost) = true := decide_eq_true (by omega)
    have d3 : decide (F.pairs.length ≤ E.length) = true := decide_eq_true (by omega)
    go_wp2
    all_goals (go_ret; exact ⟨rfl, HB4.out⟩)
  · have m1 : max (E.length : Int) (X.length : Int) = (E.length : Int) := by omega
    have m2 : min (E.length : Int) (X.length : Int) = (X.length : Int) := by omega
    have m3 : (X.length : Int) < (E.length : Int) := by omega
    have d2 : decide (5 * ((E.length : Int) - (X.length : Int)) ≤ F.cost) = true := decide_eq_true (by omega)
    have d3 : decide (F.pairs.length ≤ X.length) = true := decide_eq_true (by omega)
    go_wp2
    all_goals (go_ret; exact ⟨rfl, HB4.out⟩)

theorem Pss.take {w : World} {o : Option Addr} {l : List Ps} (h : Pss w o l) (k : Nat) : Pss w o (l.take k) := fun i hi => by
  rw [List.length_take] at hi
  obtain ⟨b, off, ho, c0, c1⟩ := h i (by omega)
  have e : (l.take k).getD i Ps.zero = l.getD i Ps.zero := by
    simp only [List.getD_eq_getElem?_getD, List.getElem?_take]
    rw [if_pos (by omega)]
  exact ⟨b, off, ho, by rw [e]; exact c0, by rw [e]; exact c1⟩
theorem validFrom_take : ∀ (l : List Ps) (b : Int) (k : Nat), validFrom b l = true → validFrom b (l.take k) = true
  | [], _, _, _ => by simp [validFrom]
  | p :: l, b, 0, _ => rfl
  | p :: l, b, k + 1, h => by
    simp only [List.take_succ_cons, validFrom, Bool.and_eq_true] at h ⊢
    exact ⟨h.1, validFrom_take l _ k h.2⟩
theorem validP_take {l : List Ps} (h : validP l = true) (k : Nat) : validP (l.take k) = true := by
  simp only [validP, Bool.and_eq_true, decide_eq_true_eq] at h ⊢
  exact ⟨by rw [List.length_take]; omega, validFrom_take l 0 k h.2⟩
theorem Best.congr {ok ok' : Nat → Nat → Bool} {d d' : Nat → Nat → Int} {n m : Nat} (hok : ∀ i j, i < n → j < m → ok i j = ok' i j) (hd : ∀ i j, i < n → j < m → d i j = d' i j) : ∀ {i used : Nat} {f : Fd}, Best ok d n m i used f → Best ok' d' n m i used f := by
  have hVP : ∀ (ok ok' : Nat → Nat → Bool), (∀ i j, i < n → j < m → ok i j = ok' i j) → ∀ {l : List Pr} {i used : Nat}, VP ok n m i used l → VP ok' n m i used l := by
    intro ok ok' hok l
    induction l with
    | nil => intro _ _ _; trivial
    | cons p l ih => intro i used h; exact ⟨h.1, h.2.1, h.2.2.1, h.2.2.2.1, (hok _ _ h.2.1 h.2.2.1) ▸ h.2.2.2.2.1, ih h.2.2.2.2.2⟩
  have hS : ∀ {l : List Pr} {i used : Nat}, VP ok n m i used l → sumD d l = sumD d' l := by
    intro l
    induction l with
    | nil => intro _ _ _; rfl
    | cons p l ih => intro i used h; rw [sumD_cons, sumD_cons, hd _ _ h.2.1 h.2.2.1, ih h.2.2.2.2.2]
  intro i used f h
  have hC : ∀ {l : List Pr} {i used : Nat}, VP ok n m i used l → costP d n m i used l = costP d' n m i used l := fun hv => by unfold costP; rw [hS hv]
  refine ⟨hVP ok ok' hok h.valid, by rw [h.cost, hC h.valid], fun l hl => ?_⟩
  have hl' := hVP ok' ok (fun i j a b => (hok i j a b).symm) hl
  rw [← hC hl']
  exact h.least l hl'
theorem getD_take {l : List Ps} {k i : Nat} (h : i < k) : (l.take k).getD i Ps.zero = l.getD i Ps.zero := by
  simp only [List.getD_eq_getElem?_getD, List.getElem?_take]
  rw [if_pos h]
/-- Without the last entry. -/
theorem more_entry (E X : List Ps) {k : Nat} (hk : E.length = k + 1) : (best E X).cost ≤ (best (E.take k) X).cost + 5 ∧ (best (E.take k) X).cost ≤ (best E X).cost + 5 := by
  have h1 := best_is E X
  have h2 := best_is (E.take k) X
  rw [hk] at h1
  rw [List.length_take, show min k E.length = k by omega] at h2
  have h3 := Best.congr (ok' := okE E X) (d' := dE E X) (fun i j hi _ => by unfold okE; rw [getD_take hi]) (fun i j hi _ => by unfold dE; rw [getD_take hi]) h2
  exact best_entry (dE_pos E X) h1 h3
/-- Without the last exit. -/
theorem more_exit (E X : List Ps) {k : Nat} (hk : X.length = k + 1) : (best E X).cost ≤ (best E (X.take k)).cost + 5 ∧ (best E (X.take k)).cost ≤ (best E X).cost + 5 := by
  have h1 := best_is E X
  have h2 := best_is E (X.take k)
  rw [hk] at h1
  rw [List.length_take, show min k X.length = k by omega] at h2
  have h3 := Best.congr (ok' := okE E X) (d' := dE E X) (fun i j _ hj => by unfold okE; rw [getD_take hj]) (fun i j _ hj => by unfold dE; rw [getD_take hj]) h2
  exact best_exit (dE_pos E X) h1 h3
theorem best_small {E X : List Ps} (hv : (validP E && validP X) = true) : FdOk (best E X) := LS_ok (validP_len (both_valid hv).1) (validP_len (both_valid hv).2) (Nat.le_refl _) 0

end Go.Proofs.YtmcodendnpjlaaaDoor