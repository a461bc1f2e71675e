/- Chapter 37: the reference's Less. -/
import Derived.Test.YtmcodendnpjlaaaDoorPlainJ37
namespace Go.Proofs.YtmcodendnpjlaaaDoor
open Go.RowKit
attribute [local go_sem] Oper.semAt_some

theorem lessT_lt {a b : Int × Int} {l1 l2 : List (Int × Int)} (h : ¬ a.1 = b.1) : lessT (a :: l1) (b :: l2) = decide (a.1 < b.1) := by simp [lessT, h]
theorem lessT_lt2 {a b : Int × Int} {l1 l2 : List (Int × Int)} (h : a.1 = b.1) (h2 : ¬ a.2 = b.2) : lessT (a :: l1) (b :: l2) = decide (a.2 < b.2) := by simp [lessT, h, h2]
theorem lessT_eq {a b : Int × Int} {l1 l2 : List (Int × Int)} (h : a.1 = b.1) (h2 : a.2 = b.2) : lessT (a :: l1) (b :: l2) = lessT l1 l2 := by simp [lessT, h, h2]
theorem lessT_end {l1 l2 : List (Int × Int)} (h : l1 = [] ∨ l2 = []) : lessT l1 l2 = decide (l1.length < l2.length) := by
  rcases h with rfl | rfl
  · cases l2 <;> simp [lessT]
  · cases l1 <;> simp [lessT]
theorem lessT_drop {l1 l2 : List (Int × Int)} {k : Nat} {V : Bool} (h1 : k ≤ l1.length) (h2 : k ≤ l2.length) (h : k = l1.length ∨ k = l2.length) (hz : lessT (l1.drop k) (l2.drop k) = V) : decide (l1.length < l2.length) = V := by
  rw [lessT_end (by rcases h with rfl | rfl; exact .inl (List.drop_length ..); exact .inr (List.drop_length ..)), List.length_drop, List.length_drop] at hz
  rw [← hz]
  exact decide_eq_decide.2 (by omega)

set_option maxRecDepth 100000 in
set_option maxHeartbeats 16000000 in
theorem RLess_any (oa ob : Option Addr) (ca cb : Nat) (la lb : List (Int × Int)) (w : World) (ha : Twos w oa la) (hb : Twos w ob lb) (hla : la.length ≤ 9000000000000000000) : Calls Tryd.prog 18 #[.slice oa la.length ca, .slice ob lb.length cb] w (Ret (.bool (lessT la lb)) w) := by
  have HA := Lib.hid ha
  have HB := Lib.hid hb
  clear ha hb
  obtain ⟨V, hV⟩ : ∃ V, lessT la lb = V := ⟨_, rfl⟩
  rw [hV]
  have HI := Lib.hid (show lessT (la.drop 0) (lb.drop 0) = V from hV)
  clear hV
  go_enter Tryd.func18, Tryd.ntmps18
  go_wp2
  go_loopw [5] (fun i wr => ∃ k : Nat, k ≤ la.length ∧ k ≤ lb.length ∧ i = .int .i64 k ∧ lessT (la.drop k) (lb.drop k) = V ∧ Below w.heap.size w wr) (fun i _ => la.length - (intOf i).toNat)
  case atStart => exact ⟨0, Nat.zero_le _, Nat.zero_le _, rfl, HI.out, Below.refl _ _⟩
  case round =>
    obtain ⟨k, hk1, hk2, rfl, hz, hbel⟩ := hrel
    have HZ := Lib.hid hz
    have HBL := Lib.hid hbel
    clear hz hbel HI
    by_cases hlt : k < la.length
    · by_cases hlt2 : k < lb.length
      · obtain ⟨b1, o1, h1, c0, c1⟩ := (HA.out.later HBL.out) k hlt
        obtain ⟨b2, o2, h2, d0, d1⟩ := (HB.out.later HBL.out) k hlt2
        subst h1 h2
        obtain ⟨p, hp⟩ : ∃ p, la.getD k (0, 0) = p := ⟨_, rfl⟩
        obtain ⟨q, hq⟩ : ∃ q, lb.getD k (0, 0) = q := ⟨_, rfl⟩
        rw [hp] at c0 c1
        rw [hq] at d0 d1
        have HE := Lib.hid (show lessT (p :: la.drop (k + 1)) (q :: lb.drop (k + 1)) = V by rw [← HZ.out, dropT hlt, dropT hlt2, hp, hq])
        clear hp hq
        have HK := Lib.hid (show k + 1 ≤ la.length ∧ k + 1 ≤ lb.length from ⟨hlt, hlt2⟩)
        have y1 : (0 : Int) ≤ (k : Int) := Int.natCast_nonneg k
        have y2 : (k : Int) < (la.length : Int) := Int.ofNat_lt.2 hlt
        have y3 : (k : Int) < (lb.length : Int) := Int.ofNat_lt.2 hlt2
        by_cases hx : p.1 = q.1
        · have e1 : (p.1 != q.1) = false := by simpa using hx
          by_cases hy : p.2 = q.2
          · have e2 : (p.2 != q.2) = false := by simpa using hy
            have HN := Lib.hid (show lessT (la.drop (k + 1)) (lb.drop (k + 1)) = V by rw [← HE.out, lessT_eq hx hy])
            clear hx hy
            go_wp2_with fail
            go_quiet (fail)
            go_wp2_with fail
            go_quiet (fail)
            go_wp2
            go_roundw
            case rel => exact ⟨k + 1, HK.out.1, HK.out.2, by go_num, HN.out, below_drewN HBL.out _⟩
            case measure => simp [intOf]; omega
          · have e2 : (p.2 != q.2) = true := by simpa using hy
            obtain rfl : decide (p.2 < q.2) = V := by rw [← HE.out, lessT_lt2 hx hy]
            clear hx hy
            go_wp2_with fail
            go_quiet (fail)
            go_wp2_with fail
            go_quiet (fail)
            go_wp2_with fail
            go_quiet (fail)
            go_wp2
            go_ret
            first | exact ⟨rfl, below_drewN HBL.out _⟩ | exact ⟨rfl, below_drewN (below_drewN (below_drewN HBL.out _) _) _⟩
        · have e1 : (p.1 != q.1) = true := by simpa using hx
          obtain rfl : decide (p.1 < q.1) = V := by rw [← HE.out, lessT_lt hx]
          clear hx
          go_wp2_with fail
          go_quiet (fail)
          go_wp2_with fail
          go_quiet (fail)
          go_wp2
          go_ret
          first | exact ⟨rfl, below_drewN HBL.out _⟩ | exact ⟨rfl, below_drewN (below_drewN HBL.out _) _⟩
      · obtain rfl : k = lb.length := by omega
        have HE := Lib.hid (lessT_drop hk1 hk2 (.inr rfl) HZ.out)
        obtain rfl : decide (la.length < lb.length) = V := HE.out
        go_wp2
        go_ret
        exact ⟨rfl, HBL.out⟩
    · obtain rfl : k = la.length := by omega
      have HE := Lib.hid (lessT_drop hk1 hk2 (.inl rfl) HZ.out)
      obtain rfl : decide (la.length < lb.length) = V := HE.out
      go_wp2
      go_ret
      exact ⟨rfl, HBL.out⟩
end Go.Proofs.YtmcodendnpjlaaaDoor
