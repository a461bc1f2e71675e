/- Chapter 39: find of messages; check; small functions of the reference. -/
import Derived.Test.YtehpdjlidmhkmaaWd39
import Derived.Test.YtehpdjlidmhkmaaPlainC39
import Derived.Deep.QuietTactic
import Derived.BigQuiet
namespace Go.Proofs.Ytehpdjlidmhkmaa
open Go.RowKit
attribute [local go_sem] Oper.semAt_some

set_option maxHeartbeats 4000000 in
theorem findM_any (o : Option Addr) (cap : Nat) (l : List Msg) (n : Int) (w : World) (hr : Msgs w o l) (hl : l.length ≤ 1000000000000000) :
    Calls Try.prog 28 #[.slice o l.length cap, .int .i64 n, .func (.func 29) #[] #[]] w (Ret (.tuple #[.int .i64 (atN l n : Nat), .bool (knownN l n)]) w) := by
  have HR := Lib.hid hr
  clear hr
  go_enter Try.func28, Try.ntmps28
  go_wp2
  go_loopw [8, 9] (fun a b wr => ∃ lo hi : Nat, lo ≤ hi ∧ hi ≤ l.length ∧ a = .int .i64 lo ∧ b = .int .i64 hi ∧ bs (nums l) n lo hi = atN l n ∧ Below w.heap.size w wr) (fun a b _ => (intOf b).toNat - (intOf a).toNat)
  case atStart => exact ⟨0, l.length, Nat.zero_le _, Nat.le_refl _, rfl, rfl, rfl, Below.refl _ _⟩
  case round =>
    obtain ⟨lo, hi, h1, h2, rfl, rfl, hz, hb⟩ := hrel
    have HZ := Lib.hid hz
    have HB := Lib.hid hb
    clear hz hb
    by_cases hlt : lo < hi
    · obtain ⟨M, hM⟩ : ∃ M, lo + (hi - lo) / 2 = M := ⟨_, rfl⟩
      have hMl : M < l.length := by omega
      have HG := Lib.hid (nums_get hMl)
      have HL := Lib.hid (fun h => bs_low (ks := nums l) (n := n) hlt h)
      have HH := Lib.hid (fun h => bs_high (ks := nums l) (n := n) hlt h)
      have eM : (lo : Int) + ((hi : Int) - (lo : Int)) / 2 = (M : Int) := by omega
      rw [hM] at HL HH
      obtain ⟨g, off, hgo, c0, c1, c2⟩ := (HR.out.later HB.out) M hMl
      subst hgo
      obtain ⟨x, hx⟩ : ∃ x, getM l M = x := ⟨_, rfl⟩
      rw [hx] at c0 c1 c2 HG
      clear hx
      have y1 : (0 : Int) ≤ (M : Int) := by omega
      have y2 : (M : Int) < (l.length : Int) := by omega
      go_wp2_with fail
      clear c0 c1 c2
      refine (numberOf_any x wr).mono ?_
      rintro e w2 ⟨rfl, hb2⟩
      have HB2 := Lib.hid (below_step HB.out hb2)
      clear hb2
      by_cases hx : x.n < n
      · have HN := Lib.hid (show bs (nums l) n (M + 1) hi = atN l n by rw [← HZ.out, HL.out (by rw [HG.out]; exact hx)])
        clear eM
        go_wp2
        go_roundw
        case rel => exact ⟨M + 1, hi, by omega, h2, by go_num, rfl, HN.out, HB2.out⟩
        case measure => simp [intOf]; omega
      · have HN := Lib.hid (show bs (nums l) n lo M = atN l n by rw [← HZ.out, HH.out (by rw [HG.out]; omega)])
        clear eM
        go_wp2
        go_roundw
        case rel => exact ⟨lo, M, by omega, by omega, rfl, rfl, HN.out, HB2.out⟩
        case measure => simp [intOf]; omega
    · have HA := Lib.hid (show lo = atN l n by rw [← HZ.out, bs_end hlt])
      by_cases hL : lo < l.length
      · have HG := Lib.hid (nums_get hL)
        obtain ⟨g, off, hgo, c0, c1, c2⟩ := (HR.out.later HB.out) lo hL
        subst hgo
        obtain ⟨x, hx⟩ : ∃ x, getM l lo = x := ⟨_, rfl⟩
        rw [hx] at c0 c1 c2 HG
        clear hx
        have y1 : (0 : Int) ≤ (lo : Int) := by omega
        have y2 : (lo : Int) < (l.length : Int) := by omega
        go_wp2_with fail
        clear c0 c1 c2
        refine (numberOf_any x wr).mono ?_
        rintro e w2 ⟨rfl, hb2⟩
        have HB2 := Lib.hid (below_step HB.out hb2)
        clear hb2
        by_cases hx : x.n = n
        · have HK := Lib.hid (show knownN l n = true by unfold knownN; rw [← HA.out, HG.out]; simp [hL, hx])
          subst hx
          go_wp2
          exact bodyPost_ret (v := .tuple #[.int .i64 (lo : Nat), .bool true]) (by simp [results, Try.results28, go_sem]) rfl ⟨by rw [HK.out, ← HA.out], HB2.out⟩
        · have HK := Lib.hid (show knownN l n = false by unfold knownN; rw [← HA.out, HG.out]; simp [hx])
          have hxb : (x.n == n) = false := by simpa using hx
          go_wp2
          exact bodyPost_ret (v := .tuple #[.int .i64 (lo : Nat), .bool false]) (by simp [results, Try.results28, go_sem]) rfl ⟨by rw [HK.out, ← HA.out], HB2.out⟩
      · have HK := Lib.hid (show knownN l n = false by unfold knownN; rw [← HA.out]; simp [hL])
        have hLb : decide ((lo : Int) < (l.length : Int)) = false := by simp; omega
        go_wp2
        exact bodyPost_ret (v := .tuple #[.int .i64 (lo : Nat), .bool false]) (by simp [results, Try.results28, go_sem]) rfl ⟨by rw [HK.out, ← HA.out], HB.out⟩

def checkE (l : List Bx) (m : Msg) (b : Bx) (known waits : Bool) : Int :=
  if m.n < b.x ∨ waits = true then 12 else if known = false ∧ l.length = 64 then 2 else if b.x < m.n ∧ many l = 64 then 10 else 0

set_option maxHeartbeats 4000000 in
theorem check_any (o : Option Addr) (cap : Nat) (l : List Bx) (m : Msg) (b : Bx) (ob : Option Addr) (cb : Nat) (known waits : Bool) (w : World) (hr : Bxs w o l) (hl : l.length ≤ 64) :
    Calls Try.prog 30 #[.slice o l.length cap, msgV m, bxV b ob cb, .bool known, .bool waits] w (Ret (.int .i64 (checkE l m b known waits)) w) := by
  have HR := Lib.hid hr
  clear hr
  obtain ⟨E, hE⟩ : ∃ E, checkE l m b known waits = E := ⟨_, rfl⟩
  rw [hE]
  have HE := Lib.hid hE
  clear hE
  by_cases h1 : m.n < b.x
  · obtain rfl : 12 = E := by rw [← HE.out]; unfold checkE; rw [if_pos (.inl h1)]
    go_enter Try.func30, Try.ntmps30
    go_wp2
    go_ret
    exact ⟨rfl, by go_grown⟩
  cases waits with
  | true =>
    obtain rfl : 12 = E := by rw [← HE.out]; unfold checkE; rw [if_pos (.inr rfl)]
    have h1b : decide (m.n < b.x) = false := by simpa using h1
    go_enter Try.func30, Try.ntmps30
    go_wp2
    go_ret
    exact ⟨rfl, by go_grown⟩
  | false =>
    have h1b : decide (m.n < b.x) = false := by simpa using h1
    have HE1 := Lib.hid (show (if known = false ∧ l.length = 64 then 2 else if b.x < m.n ∧ many l = 64 then (10 : Int) else 0) = E by rw [← HE.out]; unfold checkE; symm; rw [if_neg (show ¬ (m.n < b.x ∨ false = true) by simpa using h1)])
    by_cases h2 : known = false ∧ l.length = 64
    · obtain rfl : 2 = E := by rw [← HE1.out, if_pos h2]
      obtain ⟨rfl, h64⟩ := h2
      have h64i : (l.length : Int) = 64 := by omega
      go_enter Try.func30, Try.ntmps30
      go_wp2
      go_ret
      exact ⟨rfl, by go_grown⟩
    · have HE2 := Lib.hid (show (if b.x < m.n ∧ many l = 64 then (10 : Int) else 0) = E by rw [← HE1.out, if_neg h2])
      have HNX : Hid (∀ (w' : World), Below w.heap.size w w' → Calls Try.prog 37 #[.slice o l.length cap] w' (Ret (.int .i64 (many l : Nat)) w')) := Lib.hid (fun w' hw' => waiting_any o cap l w' (HR.out.later hw') (by omega))
      obtain ⟨N, hN⟩ : ∃ N, many l = N := ⟨_, rfl⟩
      rw [hN] at HE2 HNX
      have hk : known = true ∨ (known = false ∧ ((l.length : Int) == 64) = false) := by
        cases known
        · right
          refine ⟨rfl, ?_⟩
          rw [beq_eq_false_iff_ne]
          intro e
          exact h2 ⟨rfl, by omega⟩
        · exact .inl rfl
      clear h2 hN
      by_cases h3 : b.x < m.n
      · by_cases h4 : N = 64
        · obtain rfl : 10 = E := by rw [← HE2.out, if_pos ⟨h3, h4⟩]
          subst h4
          rcases hk with rfl | ⟨rfl, h64⟩
          all_goals
            go_enter Try.func30, Try.ntmps30
            go_wp2_with fail
            refine (HNX.out _ (by go_grown)).mono ?_
            rintro e w' ⟨rfl, hb⟩
            have HB := Lib.hid hb
            clear hb
            go_wp2
            go_ret
            exact ⟨rfl, below_step (by go_grown) HB.out⟩
        · obtain rfl : 0 = E := by rw [← HE2.out, if_neg (fun e => h4 e.2)]
          have h4b : ((N : Int) == 64) = false := by rw [beq_eq_false_iff_ne]; omega
          rcases hk with rfl | ⟨rfl, h64⟩
          all_goals
            go_enter Try.func30, Try.ntmps30
            go_wp2_with fail
            refine (HNX.out _ (by go_grown)).mono ?_
            rintro e w' ⟨rfl, hb⟩
            have HB := Lib.hid hb
            clear hb
            go_wp2
            go_ret
            exact ⟨rfl, below_step (by go_grown) HB.out⟩
      · obtain rfl : 0 = E := by rw [← HE2.out, if_neg (fun e => h3 e.1)]
        have h3b : decide (b.x < m.n) = false := by simpa using h3
        rcases hk with rfl | ⟨rfl, h64⟩
        all_goals
          go_enter Try.func30, Try.ntmps30
          go_wp2
          go_ret
          exact ⟨rfl, by go_grown⟩

set_option maxHeartbeats 4000000 in
theorem refMany_any (o : Option Addr) (cap : Nat) (l : List Bx) (w : World) (hr : Bxs w o l) (hl : l.length ≤ 1000) : Calls Try.prog 23 #[.slice o l.length cap] w (Ret (.int .i64 (many l : Nat)) w) := by
  have HR := Lib.hid hr
  have HM := Lib.hid (many_bound hr)
  clear hr
  go_enter Try.func23, Try.ntmps23
  go_wp2
  go_loopw [3, 4] (fun s i wr => ∃ k z : Nat, k ≤ l.length ∧ i = .int .i64 k ∧ s = .int .i64 (z : Nat) ∧ z = many (l.take k) ∧ Below w.heap.size w wr) (fun _ i _ => l.length - (intOf i).toNat)
  case atStart => exact ⟨0, 0, Nat.zero_le _, rfl, rfl, rfl, Below.refl _ _⟩
  case round =>
    obtain ⟨k, z, hk, rfl, rfl, hz, hb⟩ := hrel
    have hzb : z ≤ 6000000000000 * 1000 := by have := HM.out k hk; omega
    have HZ := Lib.hid hz
    have HB := Lib.hid hb
    clear hz hb
    by_cases hlt : k < l.length
    · have HT := Lib.hid (many_take hlt)
      obtain ⟨b, off, hbo, oo, cp, hw1, _, _, c0, c1, c2⟩ := (HR.out.later HB.out) k hlt
      subst hbo
      obtain ⟨x, hx⟩ : ∃ x, getB l k = x := ⟨_, rfl⟩
      rw [hx] at c0 c1 c2 hw1 HT
      clear hx
      have y1 : (0 : Int) ≤ (k : Int) := by omega
      have y2 : (k : Int) < (l.length : Int) := by omega
      go_wp2
      go_roundw
      case rel => exact ⟨k + 1, z + x.ws.length, by omega, by go_num, by go_num, by rw [HT.out, HZ.out], HB.out⟩
      case measure => simp [intOf]; omega
    · obtain rfl : k = l.length := by omega
      have HE := Lib.hid (show z = many l by rw [HZ.out, List.take_of_length_le (Nat.le_refl _)])
      go_wp2
      go_ret
      exact ⟨by rw [← HE.out]; rfl, HB.out⟩

def fewL (l : List Bx) : Bool := decide (l.length ≤ 100) && decide (many l ≤ 200)
set_option maxHeartbeats 4000000 in
theorem few_any (o : Option Addr) (cap : Nat) (l : List Bx) (w : World) (hr : Bxs w o l) (hl : l.length ≤ 9000000000000000000) : Calls Try.prog 11 #[.slice o l.length cap] w (Ret (.bool (fewL l)) w) := by
  have HR := Lib.hid hr
  clear hr
  obtain ⟨V, hV⟩ : ∃ V, fewL l = V := ⟨_, rfl⟩
  rw [hV]
  have HV := Lib.hid hV
  clear hV
  by_cases h1 : l.length ≤ 100
  · have h1d : decide ((l.length : Int) ≤ 100) = true := by simp; omega
    go_enter Try.func11, Try.ntmps11
    go_wp2_with fail
    refine (refMany_any o cap l w HR.out (by omega)).mono ?_
    rintro e w1 ⟨rfl, hb1⟩
    have HB1 := Lib.hid hb1
    clear hb1
    have HV2 := Lib.hid (show decide (many l ≤ 200) = V by rw [← HV.out]; unfold fewL; rw [decide_eq_true h1]; rfl)
    obtain ⟨N, hN⟩ : ∃ N, many l = N := ⟨_, rfl⟩
    rw [hN] at HV2 ⊢
    clear hN
    go_wp2
    go_ret
    exact ⟨ret_bool (by rw [← HV2.out, decide_eq_decide]; omega), HB1.out⟩
  · obtain rfl : false = V := by rw [← HV.out]; unfold fewL; rw [decide_eq_false h1]; rfl
    have h1d : decide ((l.length : Int) ≤ 100) = false := by simp; omega
    go_enter Try.func11, Try.ntmps11
    go_wp2
    go_ret
    exact ⟨rfl, Below.refl _ _⟩
end Go.Proofs.Ytehpdjlidmhkmaa
