/- Chapter 40: chain.Check. -/
import Derived.Test.YtddbobphmakmmaaWf40
namespace Go.Proofs.Ytddbobphmakmmaa
open Go.RowKit Go.Shelf
attribute [local go_sem] Oper.semAt_some

set_option maxHeartbeats 1000000 in
theorem inOrder_any (v : Value) (w : World) (hv : ∃ o n c, v = .slice o n c) : Calls Try.prog 26 #[v] w fun e w' => e = .returned (.func (.func 32) #[] #[.pointer (some ⟨w.heap.size, 0, none⟩)]) ∧ w' = w.alloc (.cells #[v] 26) := by
  obtain ⟨o, n, c, rfl⟩ := hv
  go_enter Try.func26, Try.ntmps26
  go_wp2
  go_ret
  exact ⟨rfl, rfl⟩

/-- What inOrder hands back. -/
theorem inOrder_stops (n q n₀ : Nat) (o : Option Addr) (cap : Nat) (l : List Rd) (hl : l.length ≤ 9223372036854775807) (w : World) (hlow : ∀ b off, o = some ⟨b, off, none⟩ → 0 < l.length → b < n₀) (hq : Blk w q 26 #[.slice o l.length cap]) (hr : Rds w o l) :
    SeqStopsK Fence.wide n Try.prog 32 #[.pointer (some ⟨q, 0, none⟩)] encs (Kpt n₀ q) (Sdone l) (Sstop l) l.length w :=
  fun lp J Jx W hW hJ hJx hY h0 => inOrder1_in n lp q n₀ o cap l J Jx hl hlow hY W hJ hJx (hq.later hW) (hr.later hW) h0

/-! ### Links, from the left -/
def stL (s : Nat) (ps : List (Int × Rd)) : Nat := ps.foldl (fun _ p => p.2.k) s
def lkOk : Nat → List (Int × Rd) → Prop
  | _, [] => True
  | s, p :: ps => p.2.k = link s p.2 ∧ lkOk p.2.k ps
theorem stL_snoc (s : Nat) (ps : List (Int × Rd)) (p : Int × Rd) : stL s (ps ++ [p]) = p.2.k := by simp [stL]
theorem lkOk_snoc (p : Int × Rd) : ∀ (s : Nat) (ps : List (Int × Rd)), lkOk s (ps ++ [p]) ↔ (lkOk s ps ∧ p.2.k = link (stL s ps) p.2)
  | s, [] => by
    show (p.2.k = link s p.2 ∧ True) ↔ (True ∧ p.2.k = link s p.2)
    exact And.comm
  | s, x :: ps => by
    show (x.2.k = link s x.2 ∧ lkOk x.2.k (ps ++ [p])) ↔ ((x.2.k = link s x.2 ∧ lkOk x.2.k ps) ∧ p.2.k = link (stL x.2.k ps) p.2)
    rw [lkOk_snoc p x.2.k ps, and_assoc]
theorem stL_lt {s : Nat} (hs : s < 18446744073709551616) (ps : List (Int × Rd)) : stL s ps < 18446744073709551616 := by
  rcases List.eq_nil_or_concat ps with rfl | ⟨q, p, rfl⟩
  · exact hs
  · rw [List.concat_eq_append, stL_snoc]; exact p.2.hk
theorem stL_enum (s : Nat) {l : List Rd} : ∀ {k : Nat}, k ≤ l.length → stL s (enum l k) = stAt s l k
  | 0, _ => rfl
  | k + 1, hk => by rw [enum_succ, stL_snoc, stAt_succ s (by omega)]
theorem lkOk_enum {s : Nat} {l : List Rd} : ∀ {k : Nat}, k ≤ l.length → lkOk s (enum l k) → ∀ i, i < k → (getR l i).k = link (stAt s l i) (getR l i)
  | 0, _, _, i, hi => absurd hi (by omega)
  | k + 1, hk, h, i, hi => by
    rw [enum_succ, lkOk_snoc, stL_enum s (by omega)] at h
    rcases Nat.lt_or_eq_of_le (Nat.le_of_lt_succ hi) with h1 | rfl
    · exact lkOk_enum (by omega) h.1 i h1
    · exact h.2

/-- The cells of Check: its result, how many are good, the state. -/
structure ChkSt (w W : World) (r g : Int) (s : Nat) : Prop where
  br : Boxed W w.heap.size 3 (.int .i64 r)
  bg : Boxed W (w.heap.size + 1) 3 (.int .i64 g)
  bs : Boxed W (w.heap.size + 1 + 1) 22 (.int .u64 (s : Nat))
  bel : Below w.heap.size w W
  sz : w.heap.size + 1 + 1 + 1 < W.heap.size

theorem boxed_turn {W W' : World} {row : Option Nat} {B : Nat} {t : TypeId} {v : Value} (h : Boxed W B t v) (hg : W.grownBy W' row) (hr : ∀ r, row = some r → ∃ o : Obj, W.heap[r]? = some o ∧ o.isCells = false) : Boxed W' B t v :=
  h.kept hg (fun e => by
    obtain ⟨o, ho, hc⟩ := hr B e.symm
    rw [show W.heap[B]? = _ from h] at ho
    cases ho
    cases hc)
theorem boxed_later {W W' : World} {B : Nat} {t : TypeId} {v : Value} (h : Boxed W B t v) (hb : Below W.heap.size W W') : Boxed W' B t v := (hb.block B h.lt).trans h

theorem ChkSt.turn {w W W' : World} {r g : Int} {s B : Nat} (h : ChkSt w W r g s) {row : Option Nat} (hB : w.heap.size ≤ B) (hg : W.grownBy W' row) (hr : ∀ r, row = some r → B ≤ r ∧ ∃ o : Obj, W.heap[r]? = some o ∧ o.isCells = false) : ChkSt w W' r g s :=
  ⟨boxed_turn h.br hg fun r e => (hr r e).2, boxed_turn h.bg hg fun r e => (hr r e).2, boxed_turn h.bs hg fun r e => (hr r e).2, h.bel.grown hg (Nat.le_trans (Nat.le_refl _) h.bel.size) (fun k e => Nat.le_trans hB (hr k e).1), Nat.lt_of_lt_of_le h.sz hg.size⟩
theorem ChkSt.later {w W W' : World} {r g : Int} {s : Nat} (h : ChkSt w W r g s) (hb : Below W.heap.size W W') : ChkSt w W' r g s :=
  ⟨boxed_later h.br hb, boxed_later h.bg hb, boxed_later h.bs hb, below_step h.bel hb, Nat.lt_of_lt_of_le h.sz hb.size⟩
theorem boxed_other {W : World} {B : Nat} {t : TypeId} {v : Value} (h : Boxed W B t v) {p : Addr} (hp : B ≠ p.block) (u : Value) : Boxed (W.setCell p u) B t v := (Below.heap_setCell W p u B hp).trans h
theorem ChkSt.setR {w W : World} {r g : Int} {s : Nat} (h : ChkSt w W r g s) (r' : Int) : ChkSt w (W.setCell ⟨w.heap.size, 0, none⟩ (.int .i64 r')) r' g s :=
  ⟨h.br.set _, boxed_other h.bg (by simp) _, boxed_other h.bs (by simp; omega) _, h.bel.setCell (Nat.le_refl _) _, by rw [World.size_setCell]; exact h.sz⟩
theorem ChkSt.setG {w W : World} {r g : Int} {s : Nat} (h : ChkSt w W r g s) (g' : Int) : ChkSt w (W.setCell ⟨w.heap.size + 1, 0, none⟩ (.int .i64 g')) r g' s :=
  ⟨boxed_other h.br (by simp) _, h.bg.set _, boxed_other h.bs (by simp) _, h.bel.setCell (by simp) _, by rw [World.size_setCell]; exact h.sz⟩
theorem ChkSt.setS {w W : World} {r g : Int} {s : Nat} (h : ChkSt w W r g s) (s' : Nat) : ChkSt w (W.setCell ⟨w.heap.size + 1 + 1, 0, none⟩ (.int .u64 (s' : Nat))) r g s' :=
  ⟨boxed_other h.br (by simp; omega) _, boxed_other h.bg (by simp) _, h.bs.set _, h.bel.setCell (by simp; omega) _, by rw [World.size_setCell]; exact h.sz⟩

theorem keeps_below {W W' : World} (hb : Below W.heap.size W W') : KeepsOthers W W' := ⟨hb.size, fun k _ hk _ => (hb.block k (Array.getElem?_eq_some_iff.1 hk).1).trans hk⟩
theorem kpt_below {n₀ q : Nat} {W W' : World} (hn : n₀ ≤ W.heap.size) (hq : q < W.heap.size) (hb : Below W.heap.size W W') : Kpt n₀ q W W' := ⟨hb.mono hn, hb.block q hq⟩
theorem kpt_set {n₀ q : Nat} {W : World} {p : Addr} (hp : n₀ ≤ p.block) (hq : q ≠ p.block) (u : Value) : Kpt n₀ q W (W.setCell p u) := ⟨(Below.refl _ _).setCell hp _, Below.heap_setCell _ _ _ _ hq⟩

end Go.Proofs.Ytddbobphmakmmaa
