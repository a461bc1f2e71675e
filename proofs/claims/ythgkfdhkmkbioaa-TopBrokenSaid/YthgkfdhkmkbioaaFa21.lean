/- Package flow: a queue; the node from which a step comes. -/
import Derived.Test.YthgkfdhkmkbioaaMf21
namespace Go.Proofs.Ythgkfdhkmkbioaa
open Go.RowKit
attribute [local go_sem] Oper.semAt_some

theorem elemI : ElemI Try.prog 23 3 1 8 := ElemI.of Try.underlying23 (by kernel_rfl) (by decide)
def intsV (l : List Int) : List Value := l.map (Value.int .i64 ·)
/-- A queue: its box, and its own row beside it. -/
structure QueM (w : World) (base QB : Nat) (l : List Int) (head : Int) (v : Value) : Prop where
  blk : Blk w QB 100 #[v, .int .i64 head]
  row : w.ownsRow base 3 1 v l.length (intsV l)
  lt : QB < base
  le : base ≤ w.heap.size
theorem QueM.later {w w' : World} {base QB : Nat} {l : List Int} {head : Int} {v : Value} (h : QueM w base QB l head v) (hb : Below w.heap.size w w') : QueM w' base QB l head v :=
  ⟨h.blk.later hb, ownsRow_later h.row hb, h.lt, Nat.le_trans h.le hb.size⟩
theorem ownsRow_shapeQ {W : World} {base : Nat} {e : TypeId} {size : Nat} {v : Value} {n : Nat} {xs : List Value} (h : W.ownsRow base e size v n xs) : ∃ o cap, v = .slice o n cap ∧ n ≤ cap := by
  rcases h.2 with ⟨rfl, rfl⟩ | ⟨g, cap, _, rfl, _, _, hc, _⟩
  · exact ⟨none, 0, rfl, Nat.le_refl _⟩
  · exact ⟨some ⟨g, 0, none⟩, cap, rfl, hc⟩
theorem ownsRow_cellQ {W : World} {base : Nat} {e : TypeId} {size : Nat} {n cap : Nat} {xs : List Value} {o : Option Addr} (h : W.ownsRow base e size (.slice o n cap) n xs) {j : Nat} {u : Value} (hj : xs[j]? = some u) : ∃ g, o = some ⟨g, 0, none⟩ ∧ base ≤ g ∧ W.cell? ⟨g, j, none⟩ = some u := by
  rcases h.2 with ⟨_, hn⟩ | ⟨g, c, _, hv', hg, _⟩
  · have hl := h.1
    rw [hn, Nat.zero_mul] at hl
    rw [List.eq_nil_of_length_eq_zero hl] at hj
    cases hj
  · injection hv' with ho
    refine ⟨g, ho, hg, ?_⟩
    have := h.cells (g := g) (by rw [ho]; rfl) j u hj
    unfold Addr.add at this
    split at this
    · rename_i h0
      subst h0
      exact this
    · simpa using this
theorem Agr.grownIn {W wr w1 : World} {S : List Nat} {ob : Option Nat} (h : Agr W wr S) (hg : wr.grownBy w1 ob) (hr : ∀ k, ob = some k → k ∈ S ∨ W.heap.size ≤ k) : Agr W w1 S :=
  ⟨hg.os.trans h.os, hg.tape.trans h.tape, hg.output.trans h.output, Nat.le_trans h.size hg.size, fun k hk hS => (hg.block k (Nat.lt_of_lt_of_le hk h.size) (fun e => by rcases hr k e.symm with h1 | h1; exact hS h1; omega)).trans (h.block k hk hS)⟩
set_option maxRecDepth 100000 in
set_option maxHeartbeats 4000000 in
theorem push_any (base QB : Nat) (l : List Int) (head x : Int) (v : Value) (w : World) (h : QueM w base QB l head v) (hl : l.length ≤ 1000) : Calls Try.prog 52 #[.pointer (some ⟨QB, 0, none⟩), .int .i64 x] w (fun e w' => e = .returned (.tuple #[]) ∧ (∃ v', QueM w' base QB (l ++ [x]) head v' ∧ (v'.ownBlock = v.ownBlock ∨ v'.ownBlock = some (w.heap.size + 1))) ∧ Agr w w' (QB :: v.ownBlock.toList)) := by
  have HQ := Lib.hid h
  clear h
  have hle := HQ.out.le
  obtain ⟨o, cap, rfl, hcap⟩ := ownsRow_shapeQ HQ.out.row
  have q0 : w.cell? ⟨QB, 0, none⟩ = some (.slice o l.length cap) := HQ.out.blk.cell 0
  have HN1 := Lib.hid (show l.length + 1 ≤ 1000000000 by omega)
  go_enter Try.func52, Try.ntmps52
  go_wp2_with (at_builtin; refine wp_append1O (news := [.int .i64 x]) elemI HQ.out.row hle HN1.out (by decide) rfl (oneI _) rfl _ _ rfl rfl rfl rfl ?_)
  intro v2 w4 hr2 hgr hat
  obtain ⟨o2, c2, rfl, _⟩ := ownsRow_shapeQ hr2
  have hlt : QB < w.heap.size := HQ.out.blk.lt
  have hlb := HQ.out.lt
  have hob : ∀ kk, (Value.slice o l.length cap).ownBlock = some kk → base ≤ kk := fun kk e => (HQ.out.row.lt kk e).1
  have hB0 := HQ.out.blk.alloc (.cells #[.int .i64 x] 3)
  have hB4 : Blk w4 QB 100 #[.slice o l.length cap, .int .i64 head] := (hgr.block _ hB0.lt (fun e => by have := hob QB e.symm; omega)).trans hB0
  have HA4 := Lib.hid (((Agr.refl w (QB :: (Value.slice o l.length cap).ownBlock.toList)).alloc (.cells #[.int .i64 x] 3)).grownIn hgr (fun k e => .inl (by rw [e]; simp)))
  have HA5 := Lib.hid (HA4.out.set (g := QB) (i := 0) (u := .slice o2 (l.length + 1) c2) (by simp))
  have HQ5 := Lib.hid (show QueM (w4.setCell ⟨QB, 0, none⟩ (.slice o2 (l.length + 1) c2)) base QB (l ++ [x]) head (.slice o2 (l.length + 1) c2) from
    ⟨by have := hB4.set 0 (.slice o2 (l.length + 1) c2); simpa using this, by
      rw [List.length_append]
      exact ownsRow_cast (ownsRow_setCell_below hr2 hlb _) rfl (by simp [intsV]), hlb, by rw [World.size_setCell]; exact Nat.le_trans hle (Nat.le_trans (by rw [World.size_alloc]; omega) hgr.size)⟩)
  have f0 := hB4.frozen 0
  have g0 : w4.cell? ⟨QB, 0, none⟩ = some (.slice o l.length cap) := hB4.cell 0
  have HAT := Lib.hid hat
  clear hB0 hB4 hr2 hgr hat hob
  go_wp2
  go_end0
  exact ⟨rfl, ⟨_, HQ5.out, HAT.out⟩, HA5.out⟩
def popV (l : List Int) (head : Nat) : Value := if head = l.length then .tuple #[.int .i64 0, .bool false] else .tuple #[.int .i64 (l.getD head 0), .bool true]
set_option maxRecDepth 100000 in
set_option maxHeartbeats 4000000 in
theorem pop_none (base QB : Nat) (l : List Int) (head : Nat) (v : Value) (w : World) (h : QueM w base QB l (head : Int) v) (_hl : l.length ≤ 1000) (hd : head = l.length) : Calls Try.prog 53 #[.pointer (some ⟨QB, 0, none⟩)] w (fun e w' => e = .returned (.tuple #[.int .i64 0, .bool false]) ∧ Below w.heap.size w w') := by
  have HQ := Lib.hid h
  clear h
  subst hd
  obtain ⟨o, cap, rfl, hcap⟩ := ownsRow_shapeQ HQ.out.row
  have q0 : w.cell? ⟨QB, 0, none⟩ = some (.slice o l.length cap) := HQ.out.blk.cell 0
  have q1 : w.cell? ⟨QB, 1, none⟩ = some (.int .i64 (l.length : Nat)) := HQ.out.blk.cell 1
  go_enter Try.func53, Try.ntmps53
  go_wp2_with fail
  go_quiet (fail)
  go_wp2
  go_ret2
  exact ⟨rfl, below_drewN (Below.refl _ _) _⟩
set_option maxRecDepth 100000 in
set_option maxHeartbeats 4000000 in
theorem pop_some (base QB : Nat) (l : List Int) (head : Nat) (v : Value) (w : World) (h : QueM w base QB l (head : Int) v) (hl : l.length ≤ 1000) (hd : head < l.length) : Calls Try.prog 53 #[.pointer (some ⟨QB, 0, none⟩)] w (fun e w' => e = .returned (.tuple #[.int .i64 (l.getD head 0), .bool true]) ∧ QueM w' base QB l ((head + 1 : Nat) : Int) v ∧ Agr w w' [QB]) := by
  have HQ := Lib.hid h
  clear h
  obtain ⟨o, cap, rfl, hcap⟩ := ownsRow_shapeQ HQ.out.row
  have q0 : w.cell? ⟨QB, 0, none⟩ = some (.slice o l.length cap) := HQ.out.blk.cell 0
  have q1 : w.cell? ⟨QB, 1, none⟩ = some (.int .i64 (head : Nat)) := HQ.out.blk.cell 1
  have d0 : ((head : Int) == (l.length : Int)) = false := by simp; omega
  have y1 : (0 : Int) ≤ (head : Int) := by omega
  have y2 : (head : Int) < (l.length : Int) := by omega
  have hj : (intsV l)[head]? = some (.int .i64 (l.getD head 0)) := by simp [intsV, hd]
  obtain ⟨g, rfl, hg, i0⟩ := ownsRow_cellQ HQ.out.row hj
  have hlb := HQ.out.lt
  have hlw := HQ.out.blk.lt
  have fz := HQ.out.blk.frozen 1
  obtain ⟨X, hX⟩ : ∃ X, l.getD head 0 = X := ⟨_, rfl⟩
  rw [hX] at i0 ⊢
  clear hj hX
  go_enter Try.func53, Try.ntmps53
  go_wp2_with fail
  go_quiet (fail)
  go_wp2_with fail
  go_quiet (fail)
  go_wp2
  go_ret2
  have hx : ((head : Int) + 1) = ((head + 1 : Nat) : Int) := by push_cast; rfl
  refine ⟨rfl, ⟨?_, ?_, hlb, ?_⟩, ?_⟩
  · rw [← hx]; exact (HQ.out.blk.drewN _).set 1 _
  · exact ownsRow_setCell_below (ownsRow_later HQ.out.row (below_drewN (Below.refl _ _) _)) hlb _
  · rw [World.size_setCell]; exact HQ.out.le
  · exact ((Agr.refl w [QB]).drewN _).set (List.mem_singleton.2 rfl)
end Go.Proofs.Ythgkfdhkmkbioaa
