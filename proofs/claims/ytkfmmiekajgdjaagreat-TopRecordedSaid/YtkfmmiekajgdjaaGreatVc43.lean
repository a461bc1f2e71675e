/- Package bill: the minutes of a stretch. -/
import Derived.Test.YtkfmmiekajgdjaaGreatVb43
import Derived.Test.YtkfmmiekajgdjaaGreatT40
namespace Go.Proofs.YtkfmmiekajgdjaaGreat
open Go.RowKit Go.Shelf
attribute [local go_sem] Oper.semAt_some

/-- The minutes of a stretch in which an article applies. -/
def minL (a : Art) (c : ClA) (f : Int) : Nat → List Int
  | 0 => []
  | k + 1 => if appA a c (f + k) then minL a c f k ++ [f + k] else minL a c f k
theorem minL_length (a : Art) (c : ClA) (f : Int) : ∀ k, (minL a c f k).length = cntA a c f k
  | 0 => rfl
  | k + 1 => by
    have ih := minL_length a c f k
    unfold minL cntA
    split
    · simp [ih]
    · exact ih
theorem minL_le (a : Art) (c : ClA) (f : Int) (k : Nat) : (minL a c f k).length ≤ k := by rw [minL_length]; exact cntA_le a c f k
@[reducible] def encM (m : Int) : Array Value := #[.int .i64 m]
def KpM (n₀ q : Nat) (W W' : World) : Prop := Below n₀ W W' ∧ W'.heap[q]? = W.heap[q]? ∧ W'.heap[q + 1]? = W.heap[q + 1]? ∧ W'.heap[q + 2]? = W.heap[q + 2]?
theorem KpM.trans {n₀ q : Nat} {A B C : World} (h : KpM n₀ q A B) (k : KpM n₀ q B C) : KpM n₀ q A C := ⟨h.1.trans k.1, k.2.1.trans h.2.1, k.2.2.1.trans h.2.2.1, k.2.2.2.trans h.2.2.2⟩
def MDone (a : Art) (c : ClA) (f : Int) (N : Nat) (xs : List Int) : Prop := xs = minL a c f N
def MStop (a : Art) (c : ClA) (f : Int) (N : Nat) (pre : List Int) : Prop := ∃ k, k < N ∧ pre = minL a c f (k + 1)
/-- The boxes of the iterator. -/
structure MBox (w : World) (q g : Nat) (f t : Int) : Prop where
  b : Blk w q 146 #[.pointer (some ⟨g, 0, none⟩)]
  f : Blk w (q + 1) 3 #[.int .i64 f]
  t : Blk w (q + 2) 3 #[.int .i64 t]
theorem MBox.later {w w' : World} {q g : Nat} {f t : Int} (h : MBox w q g f t) (hb : Below w.heap.size w w') : MBox w' q g f t := ⟨h.b.later hb, h.f.later hb, h.t.later hb⟩
theorem MBox.kept {n₀ : Nat} {w w' : World} {q g : Nat} {f t : Int} (h : MBox w q g f t) (hk : KpM n₀ q w w') : MBox w' q g f t := ⟨hk.2.1.trans h.b, hk.2.2.1.trans h.f, hk.2.2.2.trans h.t⟩
structure MIt (w0 W wr : World) (q g : Nat) (a : Art) (c : ClA) (f t : Int) (k : Nat) (J : List Int → World → Prop) : Prop where
  j : J (minL a c f k) wr
  box : MBox wr q g f t
  below : Below w0.heap.size w0 wr
  size : W.heap.size ≤ wr.heap.size
theorem MIt.later {w0 W wr w' : World} {q g : Nat} {a : Art} {c : ClA} {f t : Int} {k : Nat} {J : List Int → World → Prop} (h : MIt w0 W wr q g a c f t k J) (hJ : AbidesFrom W.heap.size J) (hb : Below wr.heap.size wr w') : MIt w0 W w' q g a c f t k J :=
  ⟨hJ _ _ _ none h.j (grownNone hb) (fun r e => by cases e), h.box.later hb, below_step h.below hb, Nat.le_trans h.size hb.size⟩

set_option maxRecDepth 100000 in
set_option maxHeartbeats 8000000 in
theorem minutes1_in (n lp q g : Nat) (a : Art) (c : ClA) (s : SesA) (f t : Int) (w0 : World) (N : Nat) (hN : t = f + N) (f0 : 0 ≤ f) (t1 : t ≤ 52560000) (hbl : BilM w0 g a c s) (ha : artA a = true) (hd : datA c.off c.chg c.hol = true) (J Jx : List Int → World → Prop)
    (hY : ∀ pre x W, J pre W → pre.length < N → YieldAt Fence.wide (n - 1) Tryz.prog lp (encM x) W fun e W' => (e = .returned (.bool true) ∧ J (pre ++ [x]) W' ∧ KpM w0.heap.size q W W') ∨ (e = .returned (.bool false) ∧ Jx (pre ++ [x]) W'))
    (W : World) (hW : Below w0.heap.size w0 W) (hJ : AbidesFrom W.heap.size J) (hq : MBox W q g f t) (h0 : J [] W) :
    CallsIn Fence.wide n Tryz.prog 120 #[.func (.yield lp) #[] #[], .pointer (some ⟨q + 1, 0, none⟩), .pointer (some ⟨q + 2, 0, none⟩), .pointer (some ⟨q, 0, none⟩)] W fun e W' => (∃ v, e = .returned v) ∧ ((∃ xs, MDone a c f N xs ∧ J xs W') ∨ (∃ pre, MStop a c f N pre ∧ Jx pre W')) := by
  have HS0 : Hid (MIt w0 W W q g a c f t 0 J) := Lib.hid ⟨h0, hq, hW, Nat.le_refl _⟩
  have HY := Lib.hid hY
  have HJ := Lib.hid hJ
  have HA := Lib.hid (fun w' (hb : Below w0.heap.size w0 w') m h1 h2 => billApplies_any w' g a c s m (hbl.later hb) ha hd h1 h2)
  have HN := Lib.hid hN
  have c1 : W.cell? ⟨q + 1, 0, none⟩ = some (.int .i64 f) := hq.f.cell 0
  clear hY hJ hq h0 hbl ha hd hW hN
  refine callsIn_of_wp Tryz.func120 rfl trivial ?_ rfl
  simp only [Tryz.ntmps120, List.size_toArray, List.length_cons, List.length_nil, Nat.reduceAdd, Nat.reduceSub, Array.replicate_succ, Array.replicate_zero, List.push_toArray, List.append_toArray, List.nil_append, List.cons_append]
  gi_wp2
  clear c1
  gi_loopw [5] (fun i wr => ∃ k : Nat, k ≤ N ∧ i = .int .i64 (f + k) ∧ MIt w0 W wr q g a c f t k J) (fun i _ => (t - intOf i).toNat)
  case atStart => exact ⟨0, Nat.zero_le _, by go_num, HS0.out⟩
  case round =>
    obtain ⟨k, hk, rfl, hst⟩ := hrel
    obtain ⟨wA, rfl⟩ : ∃ wA : World, wA = wr := ⟨_, rfl⟩
    have HST := Lib.hid hst
    clear hst HS0
    have u0 : wA.cell? ⟨q, 0, none⟩ = some (.pointer (some ⟨g, 0, none⟩)) := HST.out.box.b.cell 0
    have u2 : wA.cell? ⟨q + 2, 0, none⟩ = some (.int .i64 t) := HST.out.box.t.cell 0
    by_cases hlt : k < N
    · have d0 : decide (f + (k : Int) < t) = true := decide_eq_true (by have := HN.out; omega)
      have hm1 : f + (k : Int) ≤ 52560000 := by have := HN.out; omega
      have HC := Lib.hid (HA.out wA HST.out.below (f + k) (by omega) hm1)
      have HML := Lib.hid (show minL a c f (k + 1) = if appA a c (f + k) then minL a c f k ++ [f + k] else minL a c f k from rfl)
      have HPL := Lib.hid (minL_le a c f k)
      have HNM := Lib.hid (show f + (k : Int) + 1 = f + ((k + 1 : Nat) : Int) by push_cast; omega)
      obtain ⟨d, hd⟩ : ∃ d, appA a c (f + k) = d := ⟨_, rfl⟩
      rw [hd] at HC HML
      clear hd
      obtain ⟨M, hM⟩ : ∃ M, f + (k : Int) = M := ⟨_, rfl⟩
      rw [hM] at HC HML HNM d0 hm1 ⊢
      have HM := Lib.hid hM
      have hm0 : 0 ≤ M := by omega
      clear hM
      gi_wp2_with fail
      refine inCall HC.out ?_
      rintro e w1 ⟨rfl, hb⟩
      replace HST := Lib.hid (HST.out.later HJ.out hb)
      clear hb HC u0 u2
      cases d with
      | false =>
        have HS3 : Hid (MIt w0 W w1 q g a c f t (k + 1) J) := Lib.hid ⟨by rw [HML.out]; exact HST.out.j, HST.out.box, HST.out.below, HST.out.size⟩
        gi_wp2
        refine ⟨fun f h => (by cases h), ?_⟩
        gi_wp2
        go_roundw
        case rel => exact ⟨k + 1, hlt, by rw [← HNM.out], HS3.out⟩
        case measure => have := HN.out; have := HM.out; simp [intOf]; omega
      | true =>
        obtain ⟨fn, tmps, assign, body, hy, hR⟩ := HY.out (minL a c f k) M w1 HST.out.j (by have := HPL.out; omega)
        dsimp only [encM] at hy
        have HRR := Lib.hid hR
        clear hR
        gi_wp2
        refine ⟨fun hd => by simp [Fence.wide] at hd, HRR.out.mono ?_⟩
        rintro e W3 (⟨rfl, hJ3, hk3⟩ | ⟨rfl, hJx3⟩)
        · have HS3 : Hid (MIt w0 W W3 q g a c f t (k + 1) J) := Lib.hid ⟨by rw [HML.out]; exact hJ3, HST.out.box.kept hk3, HST.out.below.trans hk3.1, Nat.le_trans HST.out.size hk3.1.size⟩
          clear hJ3 hk3 hy HRR
          gi_wp2
          go_roundw
          case rel => exact ⟨k + 1, hlt, by rw [← HNM.out], HS3.out⟩
          case measure => have := HN.out; have := HM.out; simp [intOf]; omega
        · have HX3 : Hid (Jx (minL a c f (k + 1)) W3) := Lib.hid (by rw [HML.out]; exact hJx3)
          clear hJx3 hy HRR
          gi_wp2
          (try simp only [Exit.noGoto_ret])
          refine bodyPost_ret (results_none rfl _ _ _) rfl ?_
          exact ⟨⟨_, rfl⟩, .inr ⟨_, ⟨k, hlt, rfl⟩, HX3.out⟩⟩
    · obtain rfl : k = N := by omega
      have d0 : decide (f + (k : Int) < t) = false := decide_eq_false (by have := HN.out; omega)
      gi_wp2
      (try simp only [Exit.noGoto_normal])
      go_end0
      exact ⟨⟨_, rfl⟩, .inl ⟨_, rfl, HST.out.j⟩⟩
end Go.Proofs.YtkfmmiekajgdjaaGreat