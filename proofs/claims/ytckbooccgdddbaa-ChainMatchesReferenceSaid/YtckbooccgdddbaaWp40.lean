/- Chapter 40: ChainAppends. -/
import Derived.Test.YtckbooccgdddbaaWm40
import Derived.IntWalk
namespace Go.Proofs.Ytckbooccgdddbaa
open Go.RowKit
attribute [local go_sem] Oper.semAt_some

theorem chk_neg {seed : Nat} {l : List Rd} (h : ¬ 0 ≤ chk seed l) : chk seed l = -1 := by
  rcases chk_is seed l with ⟨e, _⟩ | ⟨k, _, e, _⟩
  · exact e
  · omega

theorem chk_append {seed : Nat} {l : List Rd} {s m r : Int} {hs : seed < 18446744073709551616} (h : apErr seed l s m r = 0) : chk seed (l ++ [apRd seed l s m r hs]) = -1 ∧ chk seed l = -1 := by
  unfold apErr at h
  split at h
  · cases h
  rename_i hc
  split at h
  · cases h
  rename_i h64
  split at h
  · cases h
  rename_i hv
  have hlen := chk_len hc
  have e1 := chk_neg hc
  have hn : IntKind.i64.wrap ((l.length : Int) + 1) = (l.length : Int) + 1 := IntWalk.i64_in _ (by omega)
  refine ⟨(isChk_eq (.inl ⟨rfl, fun i hi => ?_⟩)).symm, e1⟩
  rw [List.length_append, List.length_singleton] at hi
  rcases Nat.lt_or_eq_of_le (Nat.le_of_lt_succ hi) with hlt | rfl
  · have := rightAt_take (seed := seed) (l := l ++ [apRd seed l s m r hs]) (n := l.length) (i := i) hlt
    rw [List.take_left] at this
    rw [← this]
    exact right_of_chk e1 hlt
  · have hx : (l ++ [apRd seed l s m r hs])[l.length]? = some (apRd seed l s m r hs) := by simp
    have hp : prevAt (l ++ [apRd seed l s m r hs]) l.length = prevAt l l.length := by
      unfold prevAt
      split
      · rfl
      · rw [List.getElem?_append_left (by omega)]
    have hst : stAt seed (l ++ [apRd seed l s m r hs]) l.length = stAt seed l l.length := by unfold stAt; rw [hp]
    have hv' : validR (apRd seed l s m r hs) = true := by
      have : validR (newRd l s m r) = true := by simpa using hv
      rw [validR_iff] at this ⊢
      simp only [newRd, hn] at this
      exact this
    have hlk : link (stAt seed l l.length) (apRd seed l s m r hs) = link (stAt seed l l.length) (newRd l s m r) := by
      rw [link_folds, link_folds]
      simp only [newRd, apRd, hn]
    simp only [rightAt, okAt, hx, hst, hp, okN, hv', hlk, Bool.true_and, Bool.and_eq_true, decide_eq_true_eq]
    refine ⟨⟨rfl, ?_⟩, rfl⟩
    split
    · rfl
    · rename_i b hb
      rw [hb] at h
      dsimp only at h
      have ho : oldR b (apRd seed l s m r hs) = oldR b (newRd l s m r) := rfl
      have hl : laterR b (apRd seed l s m r hs) = laterR b (newRd l s m r) := rfl
      rw [ho, hl]
      split at h
      · cases h
      · split at h
        · cases h
        · simp_all

set_option maxRecDepth 100000 in
set_option maxHeartbeats 4000000 in
theorem chainAppends_any (seed : Nat) (o : Option Addr) (cap : Nat) (l : List Rd) (s m r : Int) (w : World) (hs : seed < 18446744073709551616) (hr : Rds w o l) (hl : l.length ≤ 9223372036854775807) :
    Calls Try.prog 4 #[.int .u64 (seed : Nat), .slice o l.length cap, .int .i64 s, .int .i64 m, .int .i64 r] w (Ret (.bool true) w) := by
  have HR := Lib.hid hr
  clear hr
  go_enter Try.func4, Try.ntmps4
  go_wp2_with fail
  refine (head_any w).mono ?_
  rintro e w1 ⟨rfl, hb1⟩
  have HB1 := Lib.hid hb1
  clear hb1
  go_wp2_with fail
  refine (Append_any seed o cap l s m r w1 hs (HR.out.later HB1.out) hl).mono ?_
  rintro e w2 ⟨hb2, ⟨hne, rfl⟩ | ⟨he0, b, cap2, hbb, hcp, rfl, hrd⟩⟩
  · have HB2 := Lib.hid (below_step HB1.out hb2)
    clear hb2
    obtain ⟨E, hE⟩ : ∃ E, apErr seed l s m r = E := ⟨_, rfl⟩
    rw [hE] at hne ⊢
    clear hE
    have hne' : ¬ E = 0 := hne
    go_wp2
    go_ret
    exact ⟨rfl, HB2.out⟩
  · have HB2 := Lib.hid (below_step HB1.out hb2)
    have HRD := Lib.hid hrd
    have HC := Lib.hid (chk_append (hs := hs) he0)
    clear hb2 hrd
    obtain ⟨X, hX⟩ : ∃ X, apRd seed l s m r hs = X := ⟨_, rfl⟩
    have HX := Lib.hid (show X.s = s ∧ X.n = (l.length : Int) + 1 ∧ X.m = m ∧ X.r = r by rw [← hX]; exact ⟨rfl, rfl, rfl, rfl⟩)
    rw [hX] at HRD HC
    clear hX he0
    by_cases h100 : 100 < l.length
    · go_wp2_with fail
      go_ret
      exact ⟨rfl, HB2.out⟩
    have y0 : ((l.length + 1 : Nat) : Int) = (l.length : Int) + 1 := by omega
    have HY := Lib.hid y0
    clear y0
    have y1 : (l.length : Int) ≤ (cap2 : Int) := by omega
    go_wp2_with fail
    refine (refSame_any (some ⟨b, 0, none⟩) o cap2 cap l l w2 (by have := HRD.out.take l.length; rwa [List.take_left] at this) (HR.out.later HB2.out) hl).mono ?_
    rintro e w3 ⟨rfl, hb3⟩
    rw [decide_eq_true (rfl : l = l)]
    have HB3 := Lib.hid (below_step HB2.out hb3)
    have HR3 := Lib.hid (HRD.out.later hb3)
    clear hb3 HRD
    obtain ⟨rfl, hXn, rfl, rfl⟩ := HX.out
    have hXb : (X.n == (l.length : Int) + 1) = true := by rw [hXn]; simp
    clear hXn HX
    obtain ⟨b', off, hbo, hx⟩ := HR3.out l.length (by simp)
    cases hbo
    have eX : getR (l ++ [X]) l.length = X := by simp [getR]
    rw [eX] at hx
    obtain ⟨c0, c1, c2, c3, c4⟩ := hx
    simp only [Nat.zero_add] at c0 c1 c2 c3 c4
    clear eX
    have y2 : (l.length : Int) < (l.length : Int) + 1 := by omega
    go_wp2_with fail
    clear c0 c1 c2 c3 c4
    have HB4 := Lib.hid (below_alloc HB3.out (.cells #[.int .i64 X.s, .int .i64 X.n, .int .i64 X.m, .int .i64 X.r, .int .u64 (X.k : Nat)] 25))
    have HCK := Lib.hid (Check_any seed (some ⟨b, 0, none⟩) cap2 (l ++ [X]) (w3.alloc (.cells #[.int .i64 X.s, .int .i64 X.n, .int .i64 X.m, .int .i64 X.r, .int .u64 (X.k : Nat)] 25)) hs (HR3.out.later (below_alloc0 _ _)) (by simp; omega))
    rw [List.length_append, List.length_singleton, HC.out.1] at HCK
    refine HCK.out.mono ?_
    rintro e w5 ⟨rfl, hb5⟩
    have HB5 := Lib.hid (below_step HB4.out hb5)
    clear hb5 HCK
    go_wp2_with fail
    refine (Check_any seed o cap l w5 hs (HR.out.later HB5.out) hl).mono ?_
    rintro e w6 ⟨rfl, hb6⟩
    have HB6 := Lib.hid (below_step HB5.out hb6)
    rw [HC.out.2]
    clear hb6
    go_wp2
    go_ret
    exact ⟨rfl, HB6.out⟩
end Go.Proofs.Ytckbooccgdddbaa
