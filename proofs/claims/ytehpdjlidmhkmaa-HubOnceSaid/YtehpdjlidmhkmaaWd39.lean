/- Chapter 39: find. -/
import Derived.Test.YtehpdjlidmhkmaaWc39
namespace Go.Proofs.Ytehpdjlidmhkmaa
open Go.RowKit
attribute [local go_sem] Oper.semAt_some

theorem bs_low {ks : List Int} {n : Int} {lo hi : Nat} (h : lo < hi) (hk : ks.getD (lo + (hi - lo) / 2) 0 < n) : bs ks n lo hi = bs ks n (lo + (hi - lo) / 2 + 1) hi := by
  rw [bs, dif_pos h, if_pos hk]
theorem bs_high {ks : List Int} {n : Int} {lo hi : Nat} (h : lo < hi) (hk : ¬ ks.getD (lo + (hi - lo) / 2) 0 < n) : bs ks n lo hi = bs ks n lo (lo + (hi - lo) / 2) := by
  rw [bs, dif_pos h, if_neg hk]
theorem bs_end {ks : List Int} {n : Int} {lo hi : Nat} (h : ¬ lo < hi) : bs ks n lo hi = lo := by
  rw [bs, dif_neg h]
theorem froms_get {l : List Bx} {i : Nat} (h : i < l.length) : (froms l).getD i 0 = (getB l i).f := by simp [froms, getB, h]
theorem nums_get {l : List Msg} {i : Nat} (h : i < l.length) : (nums l).getD i 0 = (getM l i).n := by simp [nums, getM, h]

set_option maxHeartbeats 4000000 in
theorem findB_any (o : Option Addr) (cap : Nat) (l : List Bx) (n : Int) (w : World) (hr : Bxs w o l) (hl : l.length ≤ 1000000000000000) :
    Calls Try.prog 26 #[.slice o l.length cap, .int .i64 n, .func (.func 27) #[] #[]] w (Ret (.tuple #[.int .i64 (atF l n : Nat), .bool (knownF l n)]) w) := by
  have HR := Lib.hid hr
  clear hr
  go_enter Try.func26, Try.ntmps26
  go_wp2
  go_loopw [8, 9] (fun a b wr => ∃ lo hi : Nat, lo ≤ hi ∧ hi ≤ l.length ∧ a = .int .i64 lo ∧ b = .int .i64 hi ∧ bs (froms l) n lo hi = atF l n ∧ Below w.heap.size w wr) (fun a b _ => (intOf b).toNat - (intOf a).toNat)
  case atStart => exact ⟨0, l.length, Nat.zero_le _, Nat.le_refl _, rfl, rfl, rfl, Below.refl _ _⟩
  case round =>
    obtain ⟨lo, hi, h1, h2, rfl, rfl, hz, hb⟩ := hrel
    have HZ := Lib.hid hz
    have HB := Lib.hid hb
    clear hz hb
    by_cases hlt : lo < hi
    · obtain ⟨M, hM⟩ : ∃ M, lo + (hi - lo) / 2 = M := ⟨_, rfl⟩
      have hMl : M < l.length := by omega
      have HG := Lib.hid (froms_get hMl)
      have HL := Lib.hid (fun h => bs_low (ks := froms l) (n := n) hlt h)
      have HH := Lib.hid (fun h => bs_high (ks := froms l) (n := n) hlt h)
      have eM : (lo : Int) + ((hi : Int) - (lo : Int)) / 2 = (M : Int) := by omega
      rw [hM] at HL HH
      obtain ⟨g, off, hgo, oo, cp, hw1, _, hms, c0, c1, c2⟩ := (HR.out.later HB.out) M hMl
      subst hgo
      obtain ⟨x, hx⟩ : ∃ x, getB l M = x := ⟨_, rfl⟩
      rw [hx] at c0 c1 c2 HG
      clear hx hms hw1
      have y1 : (0 : Int) ≤ (M : Int) := by omega
      have y2 : (M : Int) < (l.length : Int) := by omega
      go_wp2_with fail
      clear c0 c1 c2
      refine (fromOf_any x oo cp wr).mono ?_
      rintro e w2 ⟨rfl, hb2⟩
      have HB2 := Lib.hid (below_step HB.out hb2)
      clear hb2
      by_cases hx : x.f < n
      · have HN := Lib.hid (show bs (froms l) n (M + 1) hi = atF l n by rw [← HZ.out, HL.out (by rw [HG.out]; exact hx)])
        clear eM
        go_wp2
        go_roundw
        case rel => exact ⟨M + 1, hi, by omega, h2, by go_num, rfl, HN.out, HB2.out⟩
        case measure => simp [intOf]; omega
      · have HN := Lib.hid (show bs (froms l) n lo M = atF l n by rw [← HZ.out, HH.out (by rw [HG.out]; omega)])
        clear eM
        go_wp2
        go_roundw
        case rel => exact ⟨lo, M, by omega, by omega, rfl, rfl, HN.out, HB2.out⟩
        case measure => simp [intOf]; omega
    · have HA := Lib.hid (show lo = atF l n by rw [← HZ.out, bs_end hlt])
      by_cases hL : lo < l.length
      · have HG := Lib.hid (froms_get hL)
        obtain ⟨g, off, hgo, oo, cp, hw1, _, hms, c0, c1, c2⟩ := (HR.out.later HB.out) lo hL
        subst hgo
        obtain ⟨x, hx⟩ : ∃ x, getB l lo = x := ⟨_, rfl⟩
        rw [hx] at c0 c1 c2 HG
        clear hx hms hw1
        have y1 : (0 : Int) ≤ (lo : Int) := by omega
        have y2 : (lo : Int) < (l.length : Int) := by omega
        go_wp2_with fail
        clear c0 c1 c2
        refine (fromOf_any x oo cp wr).mono ?_
        rintro e w2 ⟨rfl, hb2⟩
        have HB2 := Lib.hid (below_step HB.out hb2)
        clear hb2
        by_cases hx : x.f = n
        · have HK := Lib.hid (show knownF l n = true by unfold knownF; rw [← HA.out, HG.out]; simp [hL, hx])
          subst hx
          go_wp2
          exact bodyPost_ret (v := .tuple #[.int .i64 (lo : Nat), .bool true]) (by simp [results, Try.results26, go_sem]) rfl ⟨by rw [HK.out, ← HA.out], HB2.out⟩
        · have HK := Lib.hid (show knownF l n = false by unfold knownF; rw [← HA.out, HG.out]; simp [hx])
          have hxb : (x.f == n) = false := by simpa using hx
          go_wp2
          exact bodyPost_ret (v := .tuple #[.int .i64 (lo : Nat), .bool false]) (by simp [results, Try.results26, go_sem]) rfl ⟨by rw [HK.out, ← HA.out], HB2.out⟩
      · have HK := Lib.hid (show knownF l n = false by unfold knownF; rw [← HA.out]; simp [hL])
        have hLb : decide ((lo : Int) < (l.length : Int)) = false := by simp; omega
        go_wp2
        exact bodyPost_ret (v := .tuple #[.int .i64 (lo : Nat), .bool false]) (by simp [results, Try.results26, go_sem]) rfl ⟨by rw [HK.out, ← HA.out], HB.out⟩
end Go.Proofs.Ytehpdjlidmhkmaa
