/- Package days: contracts of its functions. -/
import Derived.Handy
import Derived.Deep.RegionWith
import Derived.Deep.QuietTactic
import Derived.BigQuiet
import Derived.Test.YtkfmmiekajgdjaaGreatTBase
namespace Go.Proofs.YtkfmmiekajgdjaaGreat
/-! ### Plain26 -/
section
def dBand (n a b : Int) : Bool := decide (a ≤ n) && decide (n ≤ b)

/-- The keys strictly increase from above the first number on, and none is greater than the second. -/
def incr (most : Int) : Int → List Int → Bool
  | _, [] => true
  | b, k :: ks => (decide (b < k) && decide (k ≤ most)) && incr most k ks

def validCal (o : Int) (cs : List (Int × Int)) (hs : List Int) : Bool :=
  (decide (cs.length ≤ 16) && decide (hs.length ≤ 32) && dBand o (-1440) 1440) && (cs.all fun x => dBand x.2 (-1440) 1440) && incr 52560000 (-1) (cs.map (·.1)) && incr 36500 (-1) hs

/-- The offset of a minute. -/
def offAt (m : Int) : Int → List (Int × Int) → Int
  | o, [] => o
  | o, x :: xs => offAt m (if x.1 ≤ m then x.2 else o) xs

def localOf (o : Int) (cs : List (Int × Int)) (hs : List Int) (m : Int) : Int × Int × Int :=
  if validCal o cs hs && dBand m 0 52560000 then ((m + offAt m o cs) / 1440, (m + offAt m o cs) % 1440, 0) else (0, 0, 1)

def weekOf (r : Int) : Int := if r = 6 then 2 else if r = 5 then 1 else 0

def typeOf (o : Int) (cs : List (Int × Int)) (hs : List Int) (d : Int) : Int × Int :=
  if validCal o cs hs && dBand d (-1) 36501 then (if hs.contains d then 2 else weekOf (d % 7), 0) else (0, 1)

theorem drop_getD {α : Type} (l : List α) (k : Nat) (h : k < l.length) (d : α) : l.drop k = l.getD k d :: l.drop (k + 1) := by
  rw [List.drop_eq_getElem_cons h, List.getD_eq_getElem?_getD, List.getElem?_eq_getElem h]
  rfl

/-- What is left of the list is in order if all is. -/
def restIncr (most b : Int) (ks : List Int) (k : Nat) : Prop := incr most (-1) ks = incr most b (ks.drop k)

theorem restIncr_zero (most : Int) (ks : List Int) : restIncr most (-1) ks 0 := rfl
theorem restIncr_end {most b : Int} {ks : List Int} (h : restIncr most b ks ks.length) : incr most (-1) ks = true := by
  rw [h, List.drop_length]; rfl
theorem restIncr_bad {most b x : Int} {ks : List Int} {k : Nat} (h : restIncr most b ks k) (hk : k < ks.length) (hx : ks.getD k 0 = x) (hb : x ≤ b ∨ most < x) : incr most (-1) ks = false := by
  rw [h, drop_getD ks k hk 0, hx]
  unfold incr
  rcases hb with hb | hb
  · rw [decide_eq_false (show ¬ b < x by omega)]; rfl
  · rw [decide_eq_false (show ¬ x ≤ most by omega)]; simp
theorem restIncr_step {most b x : Int} {ks : List Int} {k : Nat} (h : restIncr most b ks k) (hk : k < ks.length) (hx : ks.getD k 0 = x) (h1 : b < x) (h2 : x ≤ most) : restIncr most x ks (k + 1) := by
  unfold restIncr at h ⊢
  rw [h, drop_getD ks k hk 0, hx]
  rw [incr, decide_eq_true h1, decide_eq_true h2]
  simp

theorem getD_map {α : Type} (l : List α) (f : α → Int) (k : Nat) (h : k < l.length) (d : α) (e : Int) : (l.map f).getD k e = f (l.getD k d) := by
  simp [List.getD_eq_getElem?_getD, h]

/-- The first c keys are at most n, the others are greater. -/
structure Cut (ks : List Int) (n : Int) (c : Nat) : Prop where
  len : c ≤ ks.length
  low : ∀ i, i < c → ks.getD i 0 ≤ n
  high : ∀ i, c ≤ i → i < ks.length → n < ks.getD i 0

/-- The first k changes have offsets. -/
def offs (cs : List (Int × Int)) (k : Nat) : Prop := (cs.all fun x => dBand x.2 (-1440) 1440) = (cs.drop k).all fun x => dBand x.2 (-1440) 1440

theorem offs_zero (cs : List (Int × Int)) : offs cs 0 := rfl
theorem offs_end {cs : List (Int × Int)} (h : offs cs cs.length) : (cs.all fun x => dBand x.2 (-1440) 1440) = true := by rw [h, List.drop_length]; rfl
theorem offs_step {cs : List (Int × Int)} {k : Nat} {y : Int} (h : offs cs k) (hk : k < cs.length) (hy : (cs.getD k (0, 0)).2 = y) (hb : dBand y (-1440) 1440 = true) : offs cs (k + 1) := by
  unfold offs at h ⊢
  rw [h, drop_getD cs k hk (0, 0), List.all_cons, hy, hb]
  rfl
theorem offs_bad {cs : List (Int × Int)} {k : Nat} {y : Int} (h : offs cs k) (hk : k < cs.length) (hy : (cs.getD k (0, 0)).2 = y) (hb : dBand y (-1440) 1440 = false) : (cs.all fun x => dBand x.2 (-1440) 1440) = false := by
  rw [h, drop_getD cs k hk (0, 0), List.all_cons, hy, hb]
  rfl

theorem valid_c {o : Int} {cs : List (Int × Int)} {hs : List Int} (h : ¬ cs.length ≤ 16) : validCal o cs hs = false := by simp [validCal, h]
theorem valid_h {o : Int} {cs : List (Int × Int)} {hs : List Int} (h : ¬ hs.length ≤ 32) : validCal o cs hs = false := by simp [validCal, h]
theorem valid_o {o : Int} {cs : List (Int × Int)} {hs : List Int} (h : dBand o (-1440) 1440 = false) : validCal o cs hs = false := by simp [validCal, h]
theorem valid_a {o : Int} {cs : List (Int × Int)} {hs : List Int} (h : (cs.all fun x => dBand x.2 (-1440) 1440) = false) : validCal o cs hs = false := by
  unfold validCal; rw [h]; simp
theorem valid_i {o : Int} {cs : List (Int × Int)} {hs : List Int} (h : incr 52560000 (-1) (cs.map (·.1)) = false) : validCal o cs hs = false := by
  unfold validCal; rw [h]; simp
theorem valid_j {o : Int} {cs : List (Int × Int)} {hs : List Int} (h : incr 36500 (-1) hs = false) : validCal o cs hs = false := by
  unfold validCal; rw [h]; simp
theorem valid_mk {o : Int} {cs : List (Int × Int)} {hs : List Int} (h1 : cs.length ≤ 16) (h2 : hs.length ≤ 32) (h3 : dBand o (-1440) 1440 = true) (h4 : (cs.all fun x => dBand x.2 (-1440) 1440) = true)
    (h5 : incr 52560000 (-1) (cs.map (·.1)) = true) (h6 : incr 36500 (-1) hs = true) : validCal o cs hs = true := by
  unfold validCal; rw [h3, h4, h5, h6, decide_eq_true h1, decide_eq_true h2]; rfl

theorem split_plain (n b q r : Int) (hb : 0 < b) (hq : n.tdiv b = q) (hr : n.tmod b = r) :
    (r < 0 → n / b = q - 1 ∧ n % b = r + b) ∧ (0 ≤ r → n / b = q ∧ n % b = r) := by
  have h1 : b * q + r = n := by rw [← hq, ← hr]; exact Int.mul_tdiv_add_tmod n b
  have h2 : r < b := by rw [← hr]; exact Int.tmod_lt_of_pos n hb
  have h3 : -b < r := by
    rw [← hr]
    have := Int.tmod_lt_of_pos (-n) hb
    rw [Int.neg_tmod] at this
    omega
  have key : ∀ q' r' : Int, b * q' + r' = n → 0 ≤ r' → r' < b → n / b = q' ∧ n % b = r' := fun q' r' e h0 h4 =>
    (Int.ediv_emod_unique hb).2 ⟨by omega, h0, h4⟩
  refine ⟨fun h => key _ _ ?_ (by omega) (by omega), fun h => key _ _ h1 h h2⟩
  rw [Int.mul_sub]
  omega

theorem split_bounds (n b q r : Int) (hb : 0 < b) (hq : n.tdiv b = q) (hr : n.tmod b = r) (M : Int) (h1 : -M ≤ n) (h2 : n ≤ M) : -M ≤ q ∧ q ≤ M ∧ -b < r ∧ r < b := by
  have h3 : r < b := by rw [← hr]; exact Int.tmod_lt_of_pos n hb
  have h4 : -b < r := by
    rw [← hr]
    have := Int.tmod_lt_of_pos (-n) hb
    rw [Int.neg_tmod] at this
    omega
  have h5 : q.natAbs ≤ n.natAbs := by
    rw [← hq, Int.natAbs_tdiv]
    exact Nat.div_le_self _ _
  omega
end
/-! ### Wa26 -/
section
open Go.RowKit

set_option maxHeartbeats 400000 in
theorem dinside_any (n a b : Int) (w : World) : Calls Tryz.prog 64 #[.int .i64 n, .int .i64 a, .int .i64 b] w fun e w' => e = .returned (.bool (dBand n a b)) ∧ w' = w := by
  by_cases h1 : a ≤ n
  · by_cases h2 : n ≤ b
    · have hx : dBand n a b = true := by simp [dBand, h1, h2]
      rw [hx]
      go_enter Tryz.func64, Tryz.ntmps64
      go_wp2
      go_ret
      exact ⟨rfl, rfl⟩
    · have hx : dBand n a b = false := by simp [dBand, h2]
      rw [hx]
      go_enter Tryz.func64, Tryz.ntmps64
      go_wp2
      go_ret
      exact ⟨rfl, rfl⟩
  · have hx : dBand n a b = false := by simp [dBand, h1]
    rw [hx]
    go_enter Tryz.func64, Tryz.ntmps64
    go_wp2
    go_ret
    exact ⟨rfl, rfl⟩

set_option maxHeartbeats 400000 in
theorem keys_any (w : World) : Calls Tryz.prog 65 #[] w fun e w' => e = .returned (.tuple #[.func (.func 83) #[] #[], .func (.func 84) #[] #[]]) ∧ w' = w := by
  go_enter Tryz.func65, Tryz.ntmps65
  go_wp2
  go_ret2
  exact ⟨rfl, rfl⟩

set_option maxHeartbeats 400000 in
theorem key1_any (a b : Int) (w : World) : Calls Tryz.prog 83 #[.agg #[.int .i64 a, .int .i64 b]] w (Ret (.int .i64 a) w) := by
  go_enter Tryz.func83, Tryz.ntmps83
  go_wp2
  go_ret
  exact ⟨rfl, below_alloc (Below.refl _ _) _⟩

set_option maxHeartbeats 400000 in
theorem key2_any (a : Int) (w : World) : Calls Tryz.prog 84 #[.int .i64 a] w (Ret (.int .i64 a) w) := by
  go_enter Tryz.func84, Tryz.ntmps84
  go_wp2
  go_ret
  exact ⟨rfl, Below.refl _ _⟩

set_option maxHeartbeats 400000 in
theorem week_any (w : World) : Calls Tryz.prog 125 #[] w (Ret (.agg #[.int .i64 0, .int .i64 0, .int .i64 0, .int .i64 0, .int .i64 0, .int .i64 1, .int .i64 2]) w) := by
  go_enter Tryz.func125, Tryz.ntmps125
  go_wp2
  go_returns
  exact ⟨rfl, by go_grown⟩

set_option maxHeartbeats 400000 in
theorem split_any (n b : Int) (hb : 0 < b) (hb2 : b < 100000) (hn : -1000000000 ≤ n) (hn2 : n ≤ 1000000000) (w : World) :
    Calls Tryz.prog 123 #[.int .i64 n, .int .i64 b] w (Ret (.tuple #[.int .i64 (n / b), .int .i64 (n % b)]) w) := by
  have hb0 : (b == 0) = false := by simp; omega
  obtain ⟨q, hq⟩ : ∃ q, n.tdiv b = q := ⟨_, rfl⟩
  obtain ⟨r, hr⟩ : ∃ r, n.tmod b = r := ⟨_, rfl⟩
  have hfl := split_plain n b q r hb hq hr
  obtain ⟨q', hq'⟩ : ∃ q, n / b = q := ⟨_, rfl⟩
  obtain ⟨r', hr'⟩ : ∃ r, n % b = r := ⟨_, rfl⟩
  rw [hq', hr'] at hfl ⊢
  obtain ⟨hqa, hqb, hra, hrb⟩ := split_bounds n b q r hb hq hr 1000000000 hn hn2
  have e1 := IntWalk.i64_in (q) (by omega)
  have e2 := IntWalk.i64_in (r) (by omega)
  have e3 := IntWalk.i64_in (q - 1) (by omega)
  have e4 := IntWalk.i64_in (r + b) (by omega)
  have H := Lib.hid hfl
  clear hfl hq' hr'
  go_enter Tryz.func123, Tryz.ntmps123
  go_wp2_with fail
  go_quiet (fail)
  go_wp2
  · go_ret2
    rename_i h
    obtain ⟨rfl, rfl⟩ := H.out.1 h
    exact ⟨rfl, below_drewN (Below.refl _ _) _⟩
  · go_ret2
    rename_i h
    obtain ⟨rfl, rfl⟩ := H.out.2 h
    exact ⟨rfl, below_drewN (Below.refl _ _) _⟩
end
/-! ### Wb26 -/
section
open Go.RowKit

set_option maxHeartbeats 1000000 in
theorem validC_any (o : Option Addr) (cap : Nat) (cs : List (Int × Int)) (most : Int) (w : World) (hl : cs.length ≤ 100) (hc : Twos w o cs) :
    Calls Tryz.prog 66 #[.slice o cs.length cap, .int .i64 most, .func (.func 83) #[] #[]] w (Ret (.bool (incr most (-1) (cs.map (·.1)))) w) := by
  obtain ⟨r, hr⟩ : ∃ r, incr most (-1) (cs.map (·.1)) = r := ⟨_, rfl⟩
  rw [hr]
  have HR := Lib.hid hr
  have HC := Lib.hid hc
  clear hr hc
  go_enter Tryz.func66, Tryz.ntmps66
  go_wp2
  go_loopw [7, 13] (fun u i wr => ∃ (k : Nat) (b : Int), k ≤ cs.length ∧ i = .int .i64 k ∧ u = .int .i64 b ∧ restIncr most b (cs.map (·.1)) k ∧ Below w.heap.size w wr) (fun _ i _ => cs.length - (intOf i).toNat)
  case atStart => exact ⟨0, -1, Nat.zero_le _, rfl, rfl, restIncr_zero _ _, Below.refl _ _⟩
  case round =>
    obtain ⟨k, b, hk, rfl, rfl, hrest, hb⟩ := hrel
    have HT := Lib.hid hrest
    have HB := Lib.hid hb
    clear hrest hb
    by_cases hlt : k < cs.length
    · obtain ⟨g, off, ho, h1, h2⟩ := (HC.out.later HB.out) k hlt
      subst ho
      obtain ⟨x, hx⟩ : ∃ x, (cs.getD k (0, 0)).1 = x := ⟨_, rfl⟩
      obtain ⟨y, hy⟩ : ∃ y, (cs.getD k (0, 0)).2 = y := ⟨_, rfl⟩
      rw [hx] at h1
      rw [hy] at h2
      have HX := Lib.hid ((getD_map cs (·.1) k hlt (0, 0) 0).trans hx)
      have HL := Lib.hid (show k < (cs.map (·.1)).length by simpa using hlt)
      clear hx hy
      go_wp2_with fail
      refine (key1_any x y _).mono ?_
      rintro e w1 ⟨rfl, hb1⟩
      obtain ⟨c0, c1⟩ := two_new hb1
      have HB1 := Lib.hid (below_step (below_alloc HB.out _) hb1)
      clear hb1 h1 h2
      by_cases t1 : b < x
      · by_cases t2 : x ≤ most
        · go_wp2_with fail
          refine (key1_any x y _).mono ?_
          rintro e w2 ⟨rfl, hb2⟩
          have HB2 := Lib.hid (below_step HB1.out hb2)
          clear hb2
          go_wp2
          go_roundw
          case rel => exact ⟨k + 1, x, by omega, by go_num, rfl, restIncr_step HT.out HL.out HX.out t1 t2, HB2.out⟩
          case measure => simp [intOf]; omega
        · have t3 : most < x := by omega
          go_wp2
          go_ret
          obtain rfl : r = false := HR.out.symm.trans (restIncr_bad HT.out HL.out HX.out (.inr t3))
          exact ⟨rfl, HB1.out⟩
      · have t3 : x ≤ b := by omega
        go_wp2
        go_ret
        obtain rfl : r = false := HR.out.symm.trans (restIncr_bad HT.out HL.out HX.out (.inl t3))
        exact ⟨rfl, HB1.out⟩
    · obtain rfl : k = cs.length := by omega
      go_wp2
      go_ret
      obtain rfl : r = true := HR.out.symm.trans (restIncr_end (by simpa using HT.out))
      exact ⟨rfl, HB.out⟩

set_option maxHeartbeats 1000000 in
theorem validH_any (o : Option Addr) (cap : Nat) (hs : List Int) (most : Int) (w : World) (hl : hs.length ≤ 100) (hc : Ints w o hs) :
    Calls Tryz.prog 67 #[.slice o hs.length cap, .int .i64 most, .func (.func 84) #[] #[]] w (Ret (.bool (incr most (-1) hs)) w) := by
  obtain ⟨r, hr⟩ : ∃ r, incr most (-1) hs = r := ⟨_, rfl⟩
  rw [hr]
  have HR := Lib.hid hr
  have HC := Lib.hid hc
  clear hr hc
  go_enter Tryz.func67, Tryz.ntmps67
  go_wp2
  go_loopw [7, 13] (fun u i wr => ∃ (k : Nat) (b : Int), k ≤ hs.length ∧ i = .int .i64 k ∧ u = .int .i64 b ∧ restIncr most b hs k ∧ Below w.heap.size w wr) (fun _ i _ => hs.length - (intOf i).toNat)
  case atStart => exact ⟨0, -1, Nat.zero_le _, rfl, rfl, restIncr_zero _ _, Below.refl _ _⟩
  case round =>
    obtain ⟨k, b, hk, rfl, rfl, hrest, hb⟩ := hrel
    have HT := Lib.hid hrest
    have HB := Lib.hid hb
    clear hrest hb
    by_cases hlt : k < hs.length
    · obtain ⟨g, off, ho, h1⟩ := (HC.out.later HB.out) k hlt
      subst ho
      obtain ⟨x, hx⟩ : ∃ x, hs.getD k 0 = x := ⟨_, rfl⟩
      rw [hx] at h1
      have HX := Lib.hid hx
      have HL := Lib.hid hlt
      clear hx
      go_wp2_with fail
      refine (key2_any x _).mono ?_
      rintro e w1 ⟨rfl, hb1⟩
      have HB1 := Lib.hid (below_step HB.out hb1)
      clear hb1 h1
      by_cases t1 : b < x
      · by_cases t2 : x ≤ most
        · go_wp2_with fail
          refine (key2_any x _).mono ?_
          rintro e w2 ⟨rfl, hb2⟩
          have HB2 := Lib.hid (below_step HB1.out hb2)
          clear hb2
          go_wp2
          go_roundw
          case rel => exact ⟨k + 1, x, by omega, by go_num, rfl, restIncr_step HT.out HL.out HX.out t1 t2, HB2.out⟩
          case measure => simp [intOf]; omega
        · have t3 : most < x := by omega
          go_wp2
          go_ret
          obtain rfl : r = false := HR.out.symm.trans (restIncr_bad HT.out HL.out HX.out (.inr t3))
          exact ⟨rfl, HB1.out⟩
      · have t3 : x ≤ b := by omega
        go_wp2
        go_ret
        obtain rfl : r = false := HR.out.symm.trans (restIncr_bad HT.out HL.out HX.out (.inl t3))
        exact ⟨rfl, HB1.out⟩
    · obtain rfl : k = hs.length := by omega
      go_wp2
      go_ret
      obtain rfl : r = true := HR.out.symm.trans (restIncr_end (by simpa using HT.out))
      exact ⟨rfl, HB.out⟩
end
/-! ### Wc26 -/
section
open Go.RowKit

set_option maxHeartbeats 1000000 in
theorem lastC_any (o : Option Addr) (cap : Nat) (cs : List (Int × Int)) (n : Int) (c : Nat) (w : World) (hl : cs.length ≤ 100) (hc : Twos w o cs) (hcut : Cut (cs.map (·.1)) n c) :
    Calls Tryz.prog 122 #[.slice o cs.length cap, .int .i64 n, .func (.func 83) #[] #[]] w (Ret (.int .i64 ((c : Int) - 1)) w) := by
  have HC := Lib.hid hc
  have HCut := Lib.hid hcut
  have hcl : c ≤ cs.length := by simpa using hcut.len
  clear hc hcut
  have e0 := IntWalk.i64_in ((cs.length : Int) - 1) (by omega)
  go_enter Tryz.func122, Tryz.ntmps122
  go_wp2
  go_loopw [7, 8] (fun u v wr => ∃ (lo hi : Int), -1 ≤ lo ∧ lo ≤ (c : Int) - 1 ∧ (c : Int) - 1 ≤ hi ∧ hi ≤ (cs.length : Int) - 1 ∧ u = .int .i64 lo ∧ v = .int .i64 hi ∧ Below w.heap.size w wr) (fun u v _ => (intOf v - intOf u).toNat)
  case atStart => exact ⟨-1, _, by omega, by omega, by omega, by omega, rfl, rfl, Below.refl _ _⟩
  case round =>
    obtain ⟨lo, hi, r1, r2, r3, r4, rfl, rfl, hb⟩ := hrel
    have HB := Lib.hid hb
    clear hb
    by_cases hlt : lo < hi
    · obtain ⟨t, ht⟩ : ∃ t, hi - lo = t := ⟨_, rfl⟩
      obtain ⟨d, hd⟩ : ∃ d, (t + 1).tdiv 2 = d := ⟨_, rfl⟩
      have hdd : d = (t + 1) / 2 := by rw [← hd]; exact Int.tdiv_eq_ediv_of_nonneg (by omega)
      obtain ⟨m, hm⟩ : ∃ m : Nat, lo + d = (m : Int) := ⟨(lo + d).toNat, by omega⟩
      have hml : m < cs.length := by omega
      have hma : lo < (m : Int) ∧ (m : Int) ≤ hi := by omega
      have e1 := IntWalk.i64_in t (by omega)
      have e2 := IntWalk.i64_in (t + 1) (by omega)
      have e3 := IntWalk.i64_in d (by omega)
      have e4 := IntWalk.i64_in (m : Int) (by omega)
      have e5 := IntWalk.i64_in ((m : Int) - 1) (by omega)
      have HD := Lib.hid hdd
      clear hdd
      obtain ⟨g, off, ho, h1, h2⟩ := (HC.out.later HB.out) m hml
      subst ho
      obtain ⟨x, hx⟩ : ∃ x, (cs.getD m (0, 0)).1 = x := ⟨_, rfl⟩
      obtain ⟨y, hy⟩ : ∃ y, (cs.getD m (0, 0)).2 = y := ⟨_, rfl⟩
      rw [hx] at h1
      rw [hy] at h2
      have HX := Lib.hid ((getD_map cs (·.1) m hml (0, 0) 0).trans hx)
      have HL := Lib.hid (show m < (cs.map (·.1)).length by simpa using hml)
      clear hx hy
      go_wp2_with fail
      refine (key1_any x y _).mono ?_
      rintro e w1 ⟨rfl, hb1⟩
      have HB1 := Lib.hid (below_step HB.out hb1)
      clear hb1
      by_cases t1 : x ≤ n
      · go_wp2
        go_roundw
        case rel =>
          refine ⟨m, hi, by omega, ?_, r3, r4, rfl, rfl, HB1.out⟩
          rcases Nat.lt_or_ge m c with h | h
          · omega
          · have := HCut.out.high m h HL.out
            have := HX.out
            omega
        case measure => simp [intOf]; omega
      · have t2 : n < x := by omega
        go_wp2
        go_roundw
        case rel =>
          refine ⟨lo, (m : Int) - 1, r1, r2, ?_, by omega, rfl, rfl, HB1.out⟩
          rcases Nat.lt_or_ge m c with h | h
          · have := HCut.out.low m h
            have := HX.out
            omega
          · omega
        case measure => simp [intOf]; omega
    · obtain rfl : hi = lo := by omega
      obtain rfl : hi = (c : Int) - 1 := by omega
      go_wp2
      go_ret
      exact ⟨rfl, HB.out⟩

set_option maxHeartbeats 1000000 in
theorem lastH_any (o : Option Addr) (cap : Nat) (hs : List Int) (n : Int) (c : Nat) (w : World) (hl : hs.length ≤ 100) (hc : Ints w o hs) (hcut : Cut hs n c) :
    Calls Tryz.prog 124 #[.slice o hs.length cap, .int .i64 n, .func (.func 84) #[] #[]] w (Ret (.int .i64 ((c : Int) - 1)) w) := by
  have HC := Lib.hid hc
  have HCut := Lib.hid hcut
  have hcl : c ≤ hs.length := by simpa using hcut.len
  clear hc hcut
  have e0 := IntWalk.i64_in ((hs.length : Int) - 1) (by omega)
  go_enter Tryz.func124, Tryz.ntmps124
  go_wp2
  go_loopw [7, 8] (fun u v wr => ∃ (lo hi : Int), -1 ≤ lo ∧ lo ≤ (c : Int) - 1 ∧ (c : Int) - 1 ≤ hi ∧ hi ≤ (hs.length : Int) - 1 ∧ u = .int .i64 lo ∧ v = .int .i64 hi ∧ Below w.heap.size w wr) (fun u v _ => (intOf v - intOf u).toNat)
  case atStart => exact ⟨-1, _, by omega, by omega, by omega, by omega, rfl, rfl, Below.refl _ _⟩
  case round =>
    obtain ⟨lo, hi, r1, r2, r3, r4, rfl, rfl, hb⟩ := hrel
    have HB := Lib.hid hb
    clear hb
    by_cases hlt : lo < hi
    · obtain ⟨t, ht⟩ : ∃ t, hi - lo = t := ⟨_, rfl⟩
      obtain ⟨d, hd⟩ : ∃ d, (t + 1).tdiv 2 = d := ⟨_, rfl⟩
      have hdd : d = (t + 1) / 2 := by rw [← hd]; exact Int.tdiv_eq_ediv_of_nonneg (by omega)
      obtain ⟨m, hm⟩ : ∃ m : Nat, lo + d = (m : Int) := ⟨(lo + d).toNat, by omega⟩
      have hml : m < hs.length := by omega
      have hma : lo < (m : Int) ∧ (m : Int) ≤ hi := by omega
      have e1 := IntWalk.i64_in t (by omega)
      have e2 := IntWalk.i64_in (t + 1) (by omega)
      have e3 := IntWalk.i64_in d (by omega)
      have e4 := IntWalk.i64_in (m : Int) (by omega)
      have e5 := IntWalk.i64_in ((m : Int) - 1) (by omega)
      have HD := Lib.hid hdd
      clear hdd
      obtain ⟨g, off, ho, h1⟩ := (HC.out.later HB.out) m hml
      subst ho
      obtain ⟨x, hx⟩ : ∃ x, hs.getD m 0 = x := ⟨_, rfl⟩
      rw [hx] at h1
      have HX := Lib.hid hx
      have HL := Lib.hid hml
      clear hx
      go_wp2_with fail
      refine (key2_any x _).mono ?_
      rintro e w1 ⟨rfl, hb1⟩
      have HB1 := Lib.hid (below_step HB.out hb1)
      clear hb1
      by_cases t1 : x ≤ n
      · go_wp2
        go_roundw
        case rel =>
          refine ⟨m, hi, by omega, ?_, r3, r4, rfl, rfl, HB1.out⟩
          rcases Nat.lt_or_ge m c with h | h
          · omega
          · have := HCut.out.high m h HL.out
            have := HX.out
            omega
        case measure => simp [intOf]; omega
      · have t2 : n < x := by omega
        go_wp2
        go_roundw
        case rel =>
          refine ⟨lo, (m : Int) - 1, r1, r2, ?_, by omega, rfl, rfl, HB1.out⟩
          rcases Nat.lt_or_ge m c with h | h
          · have := HCut.out.low m h
            have := HX.out
            omega
          · omega
        case measure => simp [intOf]; omega
    · obtain rfl : hi = lo := by omega
      obtain rfl : hi = (c : Int) - 1 := by omega
      go_wp2
      go_ret
      exact ⟨rfl, HB.out⟩
end
/-! ### Wd26 -/
section
open Go.RowKit

/-- A calendar as a value. -/
abbrev calV (o : Int) (oc : Option Addr) (nc kc : Nat) (oh : Option Addr) (nh kh : Nat) : Value := .agg #[.int .i64 o, .slice oc nc kc, .slice oh nh kh]

set_option maxHeartbeats 1000000 in
theorem dvalid_any (o : Int) (oc oh : Option Addr) (kc kh : Nat) (cs : List (Int × Int)) (hs : List Int) (w : World) (hc : Twos w oc cs) (hh : Ints w oh hs) :
    Calls Tryz.prog 40 #[calV o oc cs.length kc oh hs.length kh] w (Ret (.bool (validCal o cs hs)) w) := by
  obtain ⟨r, hr⟩ : ∃ r, validCal o cs hs = r := ⟨_, rfl⟩
  rw [hr]
  have HR := Lib.hid hr
  have HC := Lib.hid hc
  have HH := Lib.hid hh
  clear hr hc hh
  by_cases l1 : cs.length ≤ 16
  case neg =>
    have l1' : (16 : Int) < cs.length := by omega
    go_enter Tryz.func40, Tryz.ntmps40
    go_wp2
    go_ret
    obtain rfl : r = false := HR.out.symm.trans (valid_c l1)
    exact ⟨rfl, below_alloc (Below.refl _ _) _⟩
  by_cases l2 : hs.length ≤ 32
  case neg =>
    have l2' : (32 : Int) < hs.length := by omega
    go_enter Tryz.func40, Tryz.ntmps40
    go_wp2
    go_ret
    obtain rfl : r = false := HR.out.symm.trans (valid_h l2)
    exact ⟨rfl, below_alloc (Below.refl _ _) _⟩
  obtain ⟨q, hq⟩ : ∃ q, dBand o (-1440) 1440 = q := ⟨_, rfl⟩
  have hins : ∀ w', Calls Tryz.prog 64 #[.int .i64 o, .int .i64 (-1440), .int .i64 1440] w' fun e w'' => e = .returned (.bool q) ∧ w'' = w' := fun w' => by
    rw [← hq]; exact dinside_any o (-1440) 1440 w'
  have HI := Lib.hid hins
  have HQ := Lib.hid hq
  clear hins hq
  have l1i : (cs.length : Int) ≤ 16 := by omega
  have l2i : (hs.length : Int) ≤ 32 := by omega
  go_enter Tryz.func40, Tryz.ntmps40
  go_wp2_with fail
  refine (HI.out _).mono ?_
  rintro e w1 ⟨rfl, rfl⟩
  cases q with
  | false =>
    go_wp2
    go_ret
    obtain rfl : r = false := HR.out.symm.trans (valid_o HQ.out)
    exact ⟨rfl, below_alloc (Below.refl _ _) _⟩
  | true =>
    go_wp2
    go_loopw [26] (fun i wr => ∃ k : Nat, k ≤ cs.length ∧ i = .int .i64 k ∧ offs cs k ∧ Box3 w wr (.int .i64 o) (.slice oc cs.length kc) (.slice oh hs.length kh)) (fun i _ => cs.length - (intOf i).toNat)
    case atStart => exact ⟨0, Nat.zero_le _, rfl, offs_zero _, Box3.new ..⟩
    case round =>
      obtain ⟨k, hk, rfl, ho, hx⟩ := hrel
      have HO := Lib.hid ho
      have HX := Lib.hid hx
      clear ho hx
      by_cases hlt : k < cs.length
      · obtain ⟨g, off, hg, h1, h2⟩ := (HC.out.later HX.out.below) k hlt
        subst hg
        obtain ⟨x, hx⟩ : ∃ x, (cs.getD k (0, 0)).1 = x := ⟨_, rfl⟩
        obtain ⟨y, hy⟩ : ∃ y, (cs.getD k (0, 0)).2 = y := ⟨_, rfl⟩
        rw [hx] at h1
        rw [hy] at h2
        have HY := Lib.hid hy
        obtain ⟨p, hp⟩ : ∃ p, dBand y (-1440) 1440 = p := ⟨_, rfl⟩
        have HP := Lib.hid hp
        clear hx hy hp
        go_wp2_with fail
        refine (dinside_any y (-1440) 1440 _).mono ?_
        rintro e w2 ⟨rfl, rfl⟩
        rw [HP.out]
        cases p with
        | false =>
          go_wp2
          go_ret
          obtain rfl : r = false := HR.out.symm.trans (valid_a (offs_bad HO.out hlt HY.out HP.out))
          exact ⟨rfl, below_alloc HX.out.below _⟩
        | true =>
          go_wp2
          go_roundw
          case rel => exact ⟨k + 1, by omega, by go_num, offs_step HO.out hlt HY.out HP.out, HX.out.alloc _⟩
          case measure => simp [intOf]; omega
      · obtain rfl : k = cs.length := by omega
        go_wp2_with fail
        refine (keys_any _).mono ?_
        rintro e w2 ⟨rfl, rfl⟩
        have c1 := HX.out.c1
        have c2 := HX.out.c2
        go_wp2_with fail
        refine (validC_any oc kc cs 52560000 _ (by omega) (HC.out.later HX.out.below)).mono ?_
        rintro e w3 ⟨rfl, hb3⟩
        have HX3 := Lib.hid (HX.out.later hb3)
        obtain ⟨p, hp⟩ : ∃ p, incr 52560000 (-1) (cs.map (·.1)) = p := ⟨_, rfl⟩
        rw [hp]
        have HP := Lib.hid hp
        clear hp hb3 c1 c2
        cases p with
        | false =>
          go_wp2
          go_ret
          obtain rfl : r = false := HR.out.symm.trans (valid_i HP.out)
          exact ⟨rfl, HX3.out.below⟩
        | true =>
          have c2 := HX3.out.c2
          go_wp2_with fail
          refine (validH_any oh kh hs 36500 _ (by omega) (HH.out.later HX3.out.below)).mono ?_
          rintro e w4 ⟨rfl, hb4⟩
          have HX4 := Lib.hid (HX3.out.later hb4)
          obtain ⟨p, hp⟩ : ∃ p, incr 36500 (-1) hs = p := ⟨_, rfl⟩
          rw [hp]
          have HP2 := Lib.hid hp
          clear hp hb4 c2
          have HE : Hid (r = p) := by
            refine Lib.hid ?_
            cases p with
            | false => exact HR.out.symm.trans (valid_j HP2.out)
            | true => exact HR.out.symm.trans (valid_mk l1 l2 HQ.out (offs_end HO.out) HP.out HP2.out)
          go_wp2
          go_ret
          obtain rfl := HE.out
          exact ⟨rfl, HX4.out.below⟩
end
/-! ### PlainB26 -/
section
theorem incr_gt {most : Int} : ∀ {ks : List Int} {b : Int}, incr most b ks = true → ∀ k ∈ ks, b < k ∧ k ≤ most
  | [], _, _, k, hk => by cases hk
  | x :: xs, b, h, k, hk => by
    simp only [incr, Bool.and_eq_true, decide_eq_true_eq] at h
    rcases List.mem_cons.1 hk with rfl | hk
    · exact h.1
    · have := incr_gt h.2 k hk
      omega

theorem getD_mem {l : List Int} {i : Nat} (h : i < l.length) : l.getD i 0 ∈ l := by
  rw [List.getD_eq_getElem?_getD, List.getElem?_eq_getElem h]
  exact List.getElem_mem h

theorem cut_zero {ks : List Int} {n : Int} (h : ∀ k ∈ ks, n < k) : Cut ks n 0 :=
  ⟨Nat.zero_le _, fun _ h => absurd h (Nat.not_lt_zero _), fun _ _ hl => h _ (getD_mem hl)⟩

theorem cut_succ {ks : List Int} {n x : Int} {c : Nat} (hx : x ≤ n) (h : Cut ks n c) : Cut (x :: ks) n (c + 1) := by
  refine ⟨by have := h.len; simp; omega, fun i hi => ?_, fun i hi hl => ?_⟩
  · cases i with
    | zero => exact hx
    | succ i => exact h.low i (by omega)
  · cases i with
    | zero => omega
    | succ i => exact h.high i (by omega) (by simpa using hl)

theorem offAt_gt {m : Int} : ∀ {cs : List (Int × Int)} {o : Int}, (∀ x ∈ cs, m < x.1) → offAt m o cs = o
  | [], _, _ => rfl
  | x :: xs, o, h => by
    rw [offAt, if_neg (by have := h x (List.mem_cons_self ..); omega)]
    exact offAt_gt fun y hy => h y (List.mem_cons_of_mem _ hy)

theorem cut_off {most m : Int} : ∀ {cs : List (Int × Int)} {b o : Int}, incr most b (cs.map (·.1)) = true →
    ∃ c, Cut (cs.map (·.1)) m c ∧ (c = 0 → offAt m o cs = o) ∧ ∀ j, c = j + 1 → offAt m o cs = (cs.getD j (0, 0)).2
  | [], _, _, _ => ⟨0, cut_zero (by simp), fun _ => rfl, fun j h => by omega⟩
  | x :: xs, b, o, h => by
    simp only [List.map_cons, incr, Bool.and_eq_true, decide_eq_true_eq] at h
    by_cases hx : x.1 ≤ m
    · obtain ⟨c, hc, h0, h1⟩ := cut_off (o := x.2) (m := m) h.2
      refine ⟨c + 1, by rw [List.map_cons]; exact cut_succ hx hc, fun h => by omega, fun j hj => ?_⟩
      obtain rfl : c = j := by omega
      rw [offAt, if_pos hx]
      cases c with
      | zero => exact h0 rfl
      | succ i => exact h1 i rfl
    · have hall : ∀ k ∈ (x :: xs).map (·.1), m < k := by
        intro k hk
        rcases List.mem_cons.1 (show k ∈ x.1 :: xs.map (·.1) from hk) with rfl | hk
        · omega
        · have := incr_gt h.2 k hk
          omega
      exact ⟨0, cut_zero hall, fun _ => offAt_gt fun y hy => hall _ (List.mem_map.2 ⟨y, hy, rfl⟩), fun j h => by omega⟩

theorem cut_has {most d : Int} : ∀ {hs : List Int} {b : Int}, incr most b hs = true →
    ∃ c, Cut hs d c ∧ (c = 0 → hs.contains d = false) ∧ ∀ j, c = j + 1 → hs.contains d = (hs.getD j 0 == d)
  | [], _, _ => ⟨0, cut_zero (by simp), fun _ => rfl, fun j h => by omega⟩
  | x :: xs, b, h => by
    simp only [incr, Bool.and_eq_true, decide_eq_true_eq] at h
    by_cases hx : x ≤ d
    · obtain ⟨c, hc, h0, h1⟩ := cut_has (d := d) h.2
      refine ⟨c + 1, cut_succ hx hc, fun h => by omega, fun j hj => ?_⟩
      obtain rfl : c = j := by omega
      rw [List.contains_cons]
      cases c with
      | zero => rw [h0 rfl, Bool.or_false]; exact Bool.beq_comm
      | succ i =>
        rw [h1 i rfl]
        have h2 := hc.low i (by omega)
        have h3 := incr_gt h.2 _ (getD_mem (l := xs) (i := i) (by have := hc.len; omega))
        rw [show (d == x) = false by simp; omega]
        rfl
    · have hall : ∀ k ∈ x :: xs, d < k := by
        intro k hk
        rcases List.mem_cons.1 hk with rfl | hk
        · omega
        · have := incr_gt h.2 k hk
          omega
      refine ⟨0, cut_zero hall, fun _ => ?_, fun j h => by omega⟩
      rw [Bool.eq_false_iff]
      intro hcon
      have := hall d (by simpa using hcon)
      omega

theorem valid_parts {o : Int} {cs : List (Int × Int)} {hs : List Int} (h : validCal o cs hs = true) :
    cs.length ≤ 16 ∧ hs.length ≤ 32 ∧ dBand o (-1440) 1440 = true ∧ (∀ x ∈ cs, dBand x.2 (-1440) 1440 = true) ∧ incr 52560000 (-1) (cs.map (·.1)) = true ∧ incr 36500 (-1) hs = true := by
  unfold validCal at h
  simp only [Bool.and_eq_true, decide_eq_true_eq, List.all_eq_true] at h
  obtain ⟨⟨⟨⟨⟨h1, h2⟩, h3⟩, h4⟩, h5⟩, h6⟩ := h
  exact ⟨h1, h2, h3, h4, h5, h6⟩

theorem band_iff {n a b : Int} : dBand n a b = true ↔ a ≤ n ∧ n ≤ b := by simp [dBand]

theorem offAt_band {m : Int} : ∀ {cs : List (Int × Int)} {o : Int}, dBand o (-1440) 1440 = true → (∀ x ∈ cs, dBand x.2 (-1440) 1440 = true) → dBand (offAt m o cs) (-1440) 1440 = true
  | [], _, h, _ => h
  | x :: xs, o, h, hall => by
    rw [offAt]
    refine offAt_band ?_ fun y hy => hall y (List.mem_cons_of_mem _ hy)
    split
    · exact hall x (List.mem_cons_self ..)
    · exact h
end
/-! ### Wf26 -/
section
open Go.RowKit

def fewB (cs : List (Int × Int)) (hs : List Int) : Bool := decide (cs.length ≤ 30) && decide (hs.length ≤ 60)

set_option maxHeartbeats 1000000 in
theorem few_any (o : Int) (oc oh : Option Addr) (kc kh : Nat) (cs : List (Int × Int)) (hs : List Int) (w : World) :
    Calls Tryz.prog 18 #[calV o oc cs.length kc oh hs.length kh] w (Ret (.bool (fewB cs hs)) w) := by
  by_cases l1 : cs.length ≤ 30
  · have l1i : (cs.length : Int) ≤ 30 := by omega
    by_cases l2 : hs.length ≤ 60
    · have l2i : (hs.length : Int) ≤ 60 := by omega
      rw [show fewB cs hs = true by simp [fewB, l1, l2]]
      go_enter Tryz.func18, Tryz.ntmps18
      go_wp2
      go_ret
      exact ⟨rfl, below_alloc (Below.refl _ _) _⟩
    · have l2i : (60 : Int) < hs.length := by omega
      have l2b : decide ((hs.length : Int) ≤ 60) = false := by simp; omega
      rw [show fewB cs hs = false by simp [fewB, l2]]
      go_enter Tryz.func18, Tryz.ntmps18
      go_wp2
      go_ret
      exact ⟨rfl, below_alloc (Below.refl _ _) _⟩
  · have l1i : (30 : Int) < cs.length := by omega
    have l1b : decide ((cs.length : Int) ≤ 30) = false := by simp; omega
    rw [show fewB cs hs = false by simp [fewB, l1]]
    go_enter Tryz.func18, Tryz.ntmps18
    go_wp2
    go_ret
    exact ⟨rfl, below_alloc (Below.refl _ _) _⟩

def localV (o : Int) (cs : List (Int × Int)) (hs : List Int) (m : Int) : Value := .tuple #[.int .i64 (localOf o cs hs m).1, .int .i64 (localOf o cs hs m).2.1, .int .i64 (localOf o cs hs m).2.2]
def typeV (o : Int) (cs : List (Int × Int)) (hs : List Int) (d : Int) : Value := .tuple #[.int .i64 (typeOf o cs hs d).1, .int .i64 (typeOf o cs hs d).2]

theorem localV_bad {o : Int} {cs : List (Int × Int)} {hs : List Int} {m : Int} (h : (validCal o cs hs && dBand m 0 52560000) = false) : localV o cs hs m = .tuple #[.int .i64 0, .int .i64 0, .int .i64 1] := by
  unfold localV localOf; rw [h]; rfl
theorem localV_ok {o : Int} {cs : List (Int × Int)} {hs : List Int} {m : Int} (h : (validCal o cs hs && dBand m 0 52560000) = true) : localV o cs hs m = .tuple #[.int .i64 ((m + offAt m o cs) / 1440), .int .i64 ((m + offAt m o cs) % 1440), .int .i64 0] := by
  unfold localV localOf; rw [h]; rfl

set_option maxHeartbeats 1000000 in
theorem local_any (o m : Int) (oc oh : Option Addr) (kc kh : Nat) (cs : List (Int × Int)) (hs : List Int) (w : World) (hc : Twos w oc cs) (hh : Ints w oh hs) :
    Calls Tryz.prog 118 #[calV o oc cs.length kc oh hs.length kh, .int .i64 m] w (Ret (localV o cs hs m) w) := by
  have HC := Lib.hid hc
  have HH := Lib.hid hh
  clear hc hh
  obtain ⟨r, hr⟩ : ∃ r, localV o cs hs m = r := ⟨_, rfl⟩
  rw [hr]
  have HR := Lib.hid hr
  clear hr
  go_enter Tryz.func118, Tryz.ntmps118
  go_wp2_with fail
  have hnew := Below.alloc (Below.refl w.heap.size w) (Nat.le_refl _) (.cells #[.int .i64 o, .slice oc cs.length kc, .slice oh hs.length kh] 28)
  refine (dvalid_any o oc oh kc kh cs hs _ (HC.out.later hnew) (HH.out.later hnew)).mono ?_
  rintro e w1 ⟨rfl, hb1⟩
  have HX1 := Lib.hid ((Box3.new ..).later hb1)
  clear hb1 hnew
  obtain ⟨p, hp⟩ : ∃ p, validCal o cs hs = p := ⟨_, rfl⟩
  rw [hp]
  have HP := Lib.hid hp
  clear hp
  cases p with
  | false =>
    go_wp2
    go_ret3
    exact ⟨by rw [← HR.out, localV_bad (by rw [HP.out]; rfl)]; rfl, HX1.out.below⟩
  | true =>
    go_wp2_with fail
    refine (dinside_any m 0 52560000 _).mono ?_
    rintro e w2 ⟨rfl, rfl⟩
    obtain ⟨q, hq⟩ : ∃ q, dBand m 0 52560000 = q := ⟨_, rfl⟩
    rw [hq]
    have HQ := Lib.hid hq
    clear hq
    cases q with
    | false =>
      go_wp2
      go_ret3
      exact ⟨by rw [← HR.out, localV_bad (by rw [HP.out, HQ.out]; rfl)]; rfl, HX1.out.below⟩
    | true =>
      obtain ⟨v1, v2, v3, v4, v5, v6⟩ := valid_parts HP.out
      obtain ⟨c, hcut, hcz, hcs⟩ := cut_off (m := m) (o := o) v5
      have hband := band_iff.1 (offAt_band (m := m) v3 v4)
      have hm := band_iff.1 HQ.out
      obtain ⟨f, hf⟩ : ∃ f, offAt m o cs = f := ⟨_, rfl⟩
      rw [hf] at hband hcz hcs
      have HF : Hid (r = .tuple #[.int .i64 ((m + f) / 1440), .int .i64 ((m + f) % 1440), .int .i64 0]) := by
        refine Lib.hid ?_
        rw [← HR.out, ← hf]
        exact localV_ok (by rw [HP.out, HQ.out]; rfl)
      have HCUT := Lib.hid hcut
      have HCZ := Lib.hid hcz
      have HCS := Lib.hid hcs
      have hw := IntWalk.i64_in (m + f) (by omega)
      clear hcut hcz hcs hf v3 v4 v5 v6
      have c0 := HX1.out.c0
      have c1 := HX1.out.c1
      go_wp2_with fail
      refine (keys_any _).mono ?_
      rintro e w2 ⟨rfl, rfl⟩
      go_wp2_with fail
      refine (lastC_any oc kc cs m c _ (by omega) (HC.out.later HX1.out.below) HCUT.out).mono ?_
      rintro e w2 ⟨rfl, hb2⟩
      have HX2 := Lib.hid (HX1.out.later hb2)
      clear hb2 c0 c1
      cases c with
      | zero =>
        obtain rfl := HCZ.out rfl
        rw [show ((0 : Nat) : Int) - 1 = -1 from rfl]
        go_wp2_with fail
        refine (split_any (m + f) 1440 (by omega) (by omega) (by omega) (by omega) _).mono ?_
        rintro e w3 ⟨rfl, hb3⟩
        have HX3 := Lib.hid (HX2.out.later hb3)
        clear hb3
        obtain ⟨a, ha⟩ : ∃ a, (m + f) / 1440 = a := ⟨_, rfl⟩
        obtain ⟨b, hb⟩ : ∃ b, (m + f) % 1440 = b := ⟨_, rfl⟩
        rw [ha, hb] at HF ⊢
        clear ha hb
        go_wp2
        go_ret3
        exact ⟨by rw [HF.out]; rfl, HX3.out.below⟩
      | succ j =>
        have hjl : j < cs.length := by have := HCUT.out.len; simp at this; omega
        obtain ⟨g, off, hg, h1, h2⟩ := (HC.out.later HX2.out.below) j hjl
        subst hg
        rw [← HCS.out j rfl] at h2
        have c1 := HX2.out.c1
        rw [show ((j + 1 : Nat) : Int) - 1 = (j : Int) by omega]
        clear h1
        go_wp2_with fail
        refine (split_any (m + f) 1440 (by omega) (by omega) (by omega) (by omega) _).mono ?_
        rintro e w3 ⟨rfl, hb3⟩
        have HX3 := Lib.hid (HX2.out.later hb3)
        clear hb3 c1 h2
        obtain ⟨a, ha⟩ : ∃ a, (m + f) / 1440 = a := ⟨_, rfl⟩
        obtain ⟨b, hb⟩ : ∃ b, (m + f) % 1440 = b := ⟨_, rfl⟩
        rw [ha, hb] at HF ⊢
        clear ha hb
        go_wp2
        go_ret3
        exact ⟨by rw [HF.out]; rfl, HX3.out.below⟩
end
/-! ### Wg26 -/
section
open Go.RowKit

theorem typeV_bad {o : Int} {cs : List (Int × Int)} {hs : List Int} {d : Int} (h : (validCal o cs hs && dBand d (-1) 36501) = false) : typeV o cs hs d = .tuple #[.int .i64 0, .int .i64 1] := by
  unfold typeV typeOf; rw [h]; rfl
theorem typeV_ok {o : Int} {cs : List (Int × Int)} {hs : List Int} {d : Int} (h : (validCal o cs hs && dBand d (-1) 36501) = true) : typeV o cs hs d = .tuple #[.int .i64 (if hs.contains d then 2 else weekOf (d % 7)), .int .i64 0] := by
  unfold typeV typeOf; rw [h]; rfl

theorem week_cell {w w' : World} {t : TypeId} (hb : Below (w.alloc (.cells #[.int .i64 0, .int .i64 0, .int .i64 0, .int .i64 0, .int .i64 0, .int .i64 1, .int .i64 2] t)).heap.size (w.alloc (.cells #[.int .i64 0, .int .i64 0, .int .i64 0, .int .i64 0, .int .i64 0, .int .i64 1, .int .i64 2] t)) w') (j : Nat) (hj : j < 7) :
    w'.cell? ⟨w.heap.size, j, none⟩ = some (.int .i64 (weekOf j)) := by
  have h := ((Blk.new w t #[.int .i64 0, .int .i64 0, .int .i64 0, .int .i64 0, .int .i64 0, .int .i64 1, .int .i64 2]).later hb).cell j
  rw [h]
  match j, hj with
  | 0, _ => rfl
  | 1, _ => rfl
  | 2, _ => rfl
  | 3, _ => rfl
  | 4, _ => rfl
  | 5, _ => rfl
  | 6, _ => rfl

set_option maxHeartbeats 1000000 in
theorem type_any (o d : Int) (oc oh : Option Addr) (kc kh : Nat) (cs : List (Int × Int)) (hs : List Int) (w : World) (hc : Twos w oc cs) (hh : Ints w oh hs) :
    Calls Tryz.prog 119 #[calV o oc cs.length kc oh hs.length kh, .int .i64 d] w (Ret (typeV o cs hs d) w) := by
  have HC := Lib.hid hc
  have HH := Lib.hid hh
  clear hc hh
  obtain ⟨r, hr⟩ : ∃ r, typeV o cs hs d = r := ⟨_, rfl⟩
  rw [hr]
  have HR := Lib.hid hr
  clear hr
  go_enter Tryz.func119, Tryz.ntmps119
  go_wp2_with fail
  have hnew := Below.alloc (Below.refl w.heap.size w) (Nat.le_refl _) (.cells #[.int .i64 o, .slice oc cs.length kc, .slice oh hs.length kh] 28)
  refine (dvalid_any o oc oh kc kh cs hs _ (HC.out.later hnew) (HH.out.later hnew)).mono ?_
  rintro e w1 ⟨rfl, hb1⟩
  have HX1 := Lib.hid ((Box3.new ..).later hb1)
  clear hb1 hnew
  obtain ⟨p, hp⟩ : ∃ p, validCal o cs hs = p := ⟨_, rfl⟩
  rw [hp]
  have HP := Lib.hid hp
  clear hp
  cases p with
  | false =>
    go_wp2
    go_ret2
    exact ⟨by rw [← HR.out, typeV_bad (by rw [HP.out]; rfl)]; rfl, HX1.out.below⟩
  | true =>
    go_wp2_with fail
    refine (dinside_any d (-1) 36501 _).mono ?_
    rintro e w2 ⟨rfl, rfl⟩
    obtain ⟨q, hq⟩ : ∃ q, dBand d (-1) 36501 = q := ⟨_, rfl⟩
    rw [hq]
    have HQ := Lib.hid hq
    clear hq
    cases q with
    | false =>
      go_wp2
      go_ret2
      exact ⟨by rw [← HR.out, typeV_bad (by rw [HP.out, HQ.out]; rfl)]; rfl, HX1.out.below⟩
    | true =>
      obtain ⟨v1, v2, v3, v4, v5, v6⟩ := valid_parts HP.out
      obtain ⟨c, hcut, hcz, hcs⟩ := cut_has (d := d) v6
      have hd := band_iff.1 HQ.out
      obtain ⟨f, hf⟩ : ∃ f, hs.contains d = f := ⟨_, rfl⟩
      rw [hf] at hcz hcs
      have HF : Hid (r = .tuple #[.int .i64 (if f then 2 else weekOf (d % 7)), .int .i64 0]) := by
        refine Lib.hid ?_
        rw [← HR.out, ← hf]
        exact typeV_ok (by rw [HP.out, HQ.out]; rfl)
      have HCUT := Lib.hid hcut
      have HCZ := Lib.hid hcz
      have HCS := Lib.hid hcs
      clear hcut hcz hcs hf v3 v4 v5 v6
      obtain ⟨i, hi⟩ : ∃ i : Nat, d % 7 = (i : Int) := ⟨(d % 7).toNat, by omega⟩
      have hil : i < 7 := by omega
      rw [hi] at HF
      have hspl : ∀ w', Calls Tryz.prog 123 #[.int .i64 d, .int .i64 7] w' (Ret (.tuple #[.int .i64 (d / 7), .int .i64 (i : Int)]) w') := fun w' => by
        rw [← hi]; exact split_any d 7 (by omega) (by omega) (by omega) (by omega) w'
      have HS := Lib.hid hspl
      clear hspl hi
      have c2 := HX1.out.c2
      go_wp2_with fail
      refine (keys_any _).mono ?_
      rintro e w2 ⟨rfl, rfl⟩
      go_wp2_with fail
      refine (lastH_any oh kh hs d c _ (by omega) (HH.out.later HX1.out.below) HCUT.out).mono ?_
      rintro e w2 ⟨rfl, hb2⟩
      have HX2 := Lib.hid (HX1.out.later hb2)
      clear hb2 c2
      cases c with
      | zero =>
        obtain rfl := HCZ.out rfl
        rw [show ((0 : Nat) : Int) - 1 = -1 from rfl]
        go_wp2_with fail
        refine (week_any _).mono ?_
        rintro e w3 ⟨rfl, hb3⟩
        have HX3 := Lib.hid (HX2.out.later hb3)
        clear hb3
        go_wp2_with fail
        refine (HS.out _).mono ?_
        rintro e w4 ⟨rfl, hb4⟩
        have HX4 := Lib.hid ((HX3.out.alloc _).later hb4)
        have hcell := week_cell hb4 i hil
        clear hb4
        obtain ⟨y, hy⟩ : ∃ y, weekOf (i : Int) = y := ⟨_, rfl⟩
        rw [hy] at hcell HF
        clear hy
        go_wp2
        go_ret2
        exact ⟨by rw [HF.out]; rfl, HX4.out.below⟩
      | succ j =>
        have hjl : j < hs.length := by have := HCUT.out.len; omega
        obtain ⟨g, off, hg, h1⟩ := (HH.out.later HX2.out.below) j hjl
        subst hg
        have hfx := HCS.out j rfl
        obtain ⟨x, hx⟩ : ∃ x, hs.getD j 0 = x := ⟨_, rfl⟩
        rw [hx] at h1 hfx
        clear hx
        have c2 := HX2.out.c2
        rw [show ((j + 1 : Nat) : Int) - 1 = (j : Int) by omega]
        cases f with
        | true =>
          obtain rfl : x = d := by simpa using hfx.symm
          clear hfx
          go_wp2
          go_ret2
          exact ⟨by rw [HF.out]; rfl, HX2.out.below⟩
        | false =>
          have hne : (x == d) = false := hfx.symm
          clear hfx
          go_wp2_with fail
          refine (week_any _).mono ?_
          rintro e w3 ⟨rfl, hb3⟩
          have HX3 := Lib.hid (HX2.out.later hb3)
          clear hb3 c2 h1
          go_wp2_with fail
          refine (HS.out _).mono ?_
          rintro e w4 ⟨rfl, hb4⟩
          have HX4 := Lib.hid ((HX3.out.alloc _).later hb4)
          have hcell := week_cell hb4 i hil
          clear hb4
          obtain ⟨y, hy⟩ : ∃ y, weekOf (i : Int) = y := ⟨_, rfl⟩
          rw [hy] at hcell HF
          clear hy
          go_wp2
          go_ret2
          exact ⟨by rw [HF.out]; rfl, HX4.out.below⟩

end
end Go.Proofs.YtkfmmiekajgdjaaGreat
