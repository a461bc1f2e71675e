/- Chapter 39: what Receive makes in memory. -/
import Derived.Test.YtehpdjlidmhkmaaWp39
import Derived.Test.YtehpdjlidmhkmaaWk39
namespace Go.Proofs.Ytehpdjlidmhkmaa
open Go.RowKit Go.Shelf
attribute [local go_sem] Oper.semAt_some

theorem recvE_check {l : List Bx} {m : Msg} (hl : validL l = true) (hm : validM m = true) : recvE l m = checkE l m (boxOf l m.f) (knownF l m.f) (knownN (boxOf l m.f).ws m.n) := by
  unfold recvE checkE
  rw [hl, hm, if_neg (by simp)]

/-- The inboxes with one for the sender. -/
def withBox (l : List Bx) (m : Msg) : List Bx := if knownF l m.f = true then l else l.take (atF l m.f) ++ boxOf l m.f :: l.drop (atF l m.f)
theorem withBox_at {l : List Bx} {m : Msg} {p : Int} (h : fromsOk p l = true) : atF l m.f < (withBox l m).length ∧ getB (withBox l m) (atF l m.f) = boxOf l m.f ∧ recvL l m = (withBox l m).set (atF l m.f) (newBox l m) := by
  have hc := cutF (f := m.f) h
  unfold withBox recvL
  by_cases hk : knownF l m.f = true
  · have hh := (cut_has h hc).1.1 (by rw [← knownF_has h]; exact hk)
    rw [if_pos hk, if_pos hk]
    refine ⟨hh.1, ?_, rfl⟩
    unfold boxOf
    rw [if_pos hk]
  · rw [if_neg hk, if_neg hk]
    have hlen : (l.take (atF l m.f)).length = atF l m.f := by rw [List.length_take]; have := hc.1; omega
    refine ⟨by simp; have := hc.1; omega, ?_, ?_⟩
    · unfold getB
      rw [List.getD_eq_getElem?_getD, List.getElem?_append_right (by omega), hlen, Nat.sub_self]
      rfl
    · rw [List.set_append_right _ _ (by omega), hlen, Nat.sub_self]
      rfl

theorem flatB_take : ∀ (ls : List BxA) (k : Nat), (flatB ls).take (k * 3) = flatB (ls.take k) ∧ (flatB ls).drop (k * 3) = flatB (ls.drop k)
  | [], k => by simp [flatB]
  | a :: ls, 0 => by simp [flatB]
  | a :: ls, k + 1 => by
    have ih := flatB_take ls k
    have e : flatB (a :: ls) = bxC a ++ flatB ls := rfl
    rw [e, List.take_succ_cons, List.drop_succ_cons, show (k + 1) * 3 = (bxC a).length + k * 3 by simp; omega, List.take_length_add_append, List.drop_length_add_append, ih.1, ih.2]
    exact ⟨rfl, rfl⟩
theorem flatM_take : ∀ (ls : List Msg) (k : Nat), (flatM ls).take (k * 3) = flatM (ls.take k) ∧ (flatM ls).drop (k * 3) = flatM (ls.drop k)
  | [], k => by simp [flatM]
  | a :: ls, 0 => by simp [flatM]
  | a :: ls, k + 1 => by
    have ih := flatM_take ls k
    have e : flatM (a :: ls) = msgC a ++ flatM ls := rfl
    rw [e, List.take_succ_cons, List.drop_succ_cons, show (k + 1) * 3 = (msgC a).length + k * 3 by simp; omega, List.take_length_add_append, List.drop_length_add_append, ih.1, ih.2]
    exact ⟨rfl, rfl⟩
theorem flatB_ins (ls : List BxA) (a : BxA) (k : Nat) : (flatB ls).take (k * 3) ++ bxC a ++ (flatB ls).drop (k * 3) = flatB (ls.take k ++ [a] ++ ls.drop k) := by
  rw [(flatB_take ls k).1, (flatB_take ls k).2, flatB_append, flatB_append, flatB_one]
theorem flatM_ins (ls : List Msg) (a : Msg) (k : Nat) : (flatM ls).take (k * 3) ++ msgC a ++ (flatM ls).drop (k * 3) = flatM (ls.take k ++ a :: ls.drop k) := by
  rw [(flatM_take ls k).1, (flatM_take ls k).2, show ls.take k ++ a :: ls.drop k = ls.take k ++ [a] ++ ls.drop k by simp, flatM_append, flatM_append, flatM_one]

/-- The row of the inboxes that Receive makes. -/
structure OutR (w wr : World) (L : List Bx) (g cap : Nat) (ls : List BxA) : Prop where
  eq : bxs ls = L
  row : Row w wr 42 3 (.slice (some ⟨g, 0, none⟩) L.length cap) L.length (flatB ls)
  good : Good wr ls
  apart : ∀ a ∈ ls, ApartA (.slice (some ⟨g, 0, none⟩) L.length cap) a
  lowb : ∀ a ∈ ls, LowA w.heap.size a
theorem OutR.later {w wr w' : World} {L : List Bx} {g cap : Nat} {ls : List BxA} (h : OutR w wr L g cap ls) (hb : Below wr.heap.size wr w') : OutR w w' L g cap ls := ⟨h.eq, h.row.later hb, h.good.later hb, h.apart, h.lowb⟩
theorem OutR.known {w wr : World} {L : List Bx} {v : Value} {ls : List BxA} (h0 : 0 < L.length) (h1 : bxs ls = L) (h2 : Row w wr 42 3 v L.length (flatB ls)) (h3 : Good wr ls) (h4 : ∀ a ∈ ls, ApartA v a) (h5 : ∀ a ∈ ls, LowA w.heap.size a) : ∃ g cap, v = .slice (some ⟨g, 0, none⟩) L.length cap ∧ OutR w wr L g cap ls := by
  obtain ⟨g, cap, rfl, _, _⟩ := h2.some_of h0
  exact ⟨g, cap, rfl, h1, h2, h3, h4, h5⟩
theorem OutR.ins {w w7 w8 : World} {l : List Bx} {ls : List BxA} {g cap T : Nat} {a : BxA} (hb : Below w.heap.size w w7) (h1 : bxs ls = l) (h3 : Good w7 ls) (ha : GoodA w7 a) (hlow : ∀ b ∈ ls, LowA w.heap.size b) (hla : LowA w.heap.size a)
    (h2 : Row w7 w8 42 3 (.slice (some ⟨g, 0, none⟩) (l.length + 1) cap) (l.length + 1) ((flatB ls).take (T * 3) ++ bxC a ++ (flatB ls).drop (T * 3))) : OutR w w8 (l.take T ++ a.b :: l.drop T) g cap (ls.take T ++ [a] ++ ls.drop T) := by
  have hlen : (l.take T ++ a.b :: l.drop T).length = l.length + 1 := by simp; omega
  have hmem : ∀ b ∈ ls.take T ++ [a] ++ ls.drop T, GoodA w7 b := fun b hb' => by
    rcases List.mem_append.1 hb' with hb' | hb'
    · rcases List.mem_append.1 hb' with hb' | hb'
      · exact h3 b (List.mem_of_mem_take hb')
      · simp at hb'; subst hb'; exact ha
    · exact h3 b (List.mem_of_mem_drop hb')
  have hrow : Row w w8 42 3 (.slice (some ⟨g, 0, none⟩) (l.length + 1) cap) (l.length + 1) (flatB (ls.take T ++ [a] ++ ls.drop T)) := by
    refine ⟨⟨?_, ?_⟩, below_step hb h2.below⟩
    · have := h2.own.1
      rw [flatB_ins] at this
      exact this
    · rcases h2.own.2 with h0 | ⟨g', cap', cur, hv, hg, h5⟩
      · exact .inl h0
      · refine .inr ⟨g', cap', cur, hv, Nat.le_trans hb.size hg, ?_⟩
        rw [← flatB_ins]
        exact h5
  refine ⟨by rw [← h1]; simp [bxs], by rw [hlen]; exact hrow, fun b hb' => (hmem b hb').later h2.below, (fun b hb' p hp hl e => ?_), fun b hb' => ?_⟩
  · have h5 := (hmem b hb').ms.lt p hp hl
    have h6 := (h2.block).1
    injection e with e
    have e' : p.block = g := e
    omega
  · rcases List.mem_append.1 hb' with hb' | hb'
    · rcases List.mem_append.1 hb' with hb' | hb'
      · exact hlow b (List.mem_of_mem_take hb')
      · simp at hb'; subst hb'; exact hla
    · exact hlow b (List.mem_of_mem_drop hb')

theorem grown_set (w : World) (p : Addr) (u : Value) : w.grownBy (w.setCell p u) (some p.block) :=
  ⟨rfl, rfl, rfl, by simp, fun k _ hne => Below.heap_setCell w p u k (fun e => hne (by rw [e]))⟩
theorem flatB_set1 : ∀ (ls : List BxA) (k : Nat) (y : Int), k < ls.length → (flatB ls).set (k * 3 + 1) (.int .i64 y) = flatB (ls.set k ⟨⟨(getA ls k).b.f, y, (getA ls k).b.ws⟩, (getA ls k).o, (getA ls k).cap⟩)
  | [], k, y, h => by simp at h
  | a :: ls, 0, y, _ => rfl
  | a :: ls, k + 1, y, h => by
    have ih := flatB_set1 ls k y (by simpa using h)
    have e : flatB (a :: ls) = bxC a ++ flatB ls := rfl
    have e2 : getA (a :: ls) (k + 1) = getA ls k := rfl
    rw [e, List.set_append_right _ _ (by simp; omega), e2, List.set_cons_succ, show (k + 1) * 3 + 1 - (bxC a).length = k * 3 + 1 by simp; omega, ih]
    rfl
theorem flatB_set2 : ∀ (ls : List BxA) (k : Nat) (ws : List Msg) (o : Option Addr) (cap : Nat), k < ls.length → (flatB ls).set (k * 3 + 2) (.slice o ws.length cap) = flatB (ls.set k ⟨⟨(getA ls k).b.f, (getA ls k).b.x, ws⟩, o, cap⟩)
  | [], k, _, _, _, h => by simp at h
  | a :: ls, 0, _, _, _, _ => rfl
  | a :: ls, k + 1, ws, o, cap, h => by
    have ih := flatB_set2 ls k ws o cap (by simpa using h)
    have e : flatB (a :: ls) = bxC a ++ flatB ls := rfl
    have e2 : getA (a :: ls) (k + 1) = getA ls k := rfl
    rw [e, List.set_append_right _ _ (by simp; omega), e2, List.set_cons_succ, show (k + 1) * 3 + 2 - (bxC a).length = k * 3 + 2 by simp; omega, ih]
    rfl
theorem Row.recast {w wr : World} {e : TypeId} {size n n' : Nat} {o : Option Addr} {cap : Nat} {xs xs' : List Value} (h : Row w wr e size (.slice o n cap) n xs) (hn : n = n') (hx : xs = xs') : Row w wr e size (.slice o n' cap) n' xs' := by subst hn; subst hx; exact h
theorem bxs_set (ls : List BxA) (k : Nat) (a : BxA) : bxs (ls.set k a) = (bxs ls).set k a.b := by simp [bxs, List.map_set]
theorem mem_set_of {α : Type} {l : List α} {k : Nat} {a b : α} (h : b ∈ l.set k a) : b = a ∨ b ∈ l := by
  rcases List.mem_or_eq_of_mem_set h with h | h
  · exact .inr h
  · exact .inl h
theorem OutR.len {w wr : World} {L : List Bx} {g cap : Nat} {ls : List BxA} (h : OutR w wr L g cap ls) : ls.length = L.length := by rw [← h.eq, bxs_length]
theorem OutR.getA {w wr : World} {L : List Bx} {g cap : Nat} {ls : List BxA} (h : OutR w wr L g cap ls) {k : Nat} (hk : k < L.length) : (Go.Proofs.Ytehpdjlidmhkmaa.getA ls k).b = getB L k := by rw [← h.eq, getB_bxs (by rw [h.len]; exact hk)]
/-- The number of the next message is stored. -/
theorem OutR.set1 {w wr : World} {L : List Bx} {g cap k : Nat} {ls : List BxA} {x : Bx} {o : Option Addr} {c : Nat} (h : OutR w wr L g cap ls) (hk : k < L.length) (ha : Go.Proofs.Ytehpdjlidmhkmaa.getA ls k = ⟨x, o, c⟩) (y : Int) : OutR w (wr.setCell ⟨g, k * 3 + 1, none⟩ (.int .i64 y)) (L.set k ⟨x.f, y, x.ws⟩) g cap (ls.set k ⟨⟨x.f, y, x.ws⟩, o, c⟩) := by
  have hmem : ∀ b ∈ ls.set k ⟨⟨x.f, y, x.ws⟩, o, c⟩, ∃ b' ∈ ls, b.o = b'.o ∧ b.b.ws = b'.b.ws ∧ b.cap = b'.cap := fun b hb => by
    rcases mem_set_of hb with rfl | hb
    · exact ⟨Go.Proofs.Ytehpdjlidmhkmaa.getA ls k, getA_mem (by rw [h.len]; exact hk), by rw [ha], by rw [ha], by rw [ha]⟩
    · exact ⟨b, hb, rfl, rfl, rfl⟩
  refine ⟨by rw [bxs_set, h.eq], ?_, fun b hb => ?_, (fun b hb p hp hl e => ?_), fun b hb => ?_⟩
  · have h1 := h.row.stored (k * 3 + 1) (.int .i64 y)
    rw [flatB_set1 ls k y (by rw [h.len]; exact hk), ha] at h1
    exact h1.recast (by simp) rfl
  · obtain ⟨b', hb', e1, e2, e3⟩ := hmem b hb
    have hg := h.good b' hb'
    refine ⟨?_, by rw [e2]; exact hg.le, by rw [e2, e3]; exact hg.cap⟩
    rw [e1, e2]
    intro i hi
    exact (hg.ms.grown (row := some g) (grown_set wr ⟨g, _, none⟩ _) (fun p hp hl => h.apart b' hb' p hp hl)) i hi
  · obtain ⟨b', hb', e1, e2, e3⟩ := hmem b hb
    exact h.apart b' hb' p (by rw [← e1]; exact hp) (by rw [← e2]; exact hl) e
  · obtain ⟨b', hb', e1, e2, e3⟩ := hmem b hb
    exact fun p hp hl => h.lowb b' hb' p (by rw [← e1]; exact hp) (by rw [← e2]; exact hl)
/-- What waits is stored. -/
theorem OutR.set2 {w wr : World} {L : List Bx} {g cap k : Nat} {ls : List BxA} {x : Bx} {o : Option Addr} {c : Nat} (h : OutR w wr L g cap ls) (hk : k < L.length) (ha : Go.Proofs.Ytehpdjlidmhkmaa.getA ls k = ⟨x, o, c⟩) {ws : List Msg} {o2 : Option Addr} {c2 n2 : Nat} (hn2 : n2 = ws.length) (hg2 : GoodA wr ⟨⟨x.f, x.x, ws⟩, o2, c2⟩) (hp2 : ∀ p : Addr, o2 = some p → 0 < ws.length → p.block ≠ g) (hl2 : LowA w.heap.size ⟨⟨x.f, x.x, ws⟩, o2, c2⟩) : OutR w (wr.setCell ⟨g, k * 3 + 2, none⟩ (.slice o2 n2 c2)) (L.set k ⟨x.f, x.x, ws⟩) g cap (ls.set k ⟨⟨x.f, x.x, ws⟩, o2, c2⟩) := by
  subst hn2
  refine ⟨by rw [bxs_set, h.eq], ?_, fun b hb => ?_, (fun b hb p hp hl e => ?_), fun b hb => ?_⟩
  · have h1 := h.row.stored (k * 3 + 2) (.slice o2 ws.length c2)
    rw [flatB_set2 ls k ws o2 c2 (by rw [h.len]; exact hk), ha] at h1
    exact h1.recast (by simp) rfl
  · rcases mem_set_of hb with rfl | hb
    · exact ⟨hg2.ms.grown (row := some g) (grown_set wr ⟨g, _, none⟩ _) (fun p hp hl e => hp2 p hp hl (by injection e)), hg2.le, hg2.cap⟩
    · exact (h.good b hb).grown (v := .slice (some ⟨g, 0, none⟩) L.length cap) (h.apart b hb) (grown_set wr ⟨g, _, none⟩ _)
  · rcases mem_set_of hb with rfl | hb
    · injection e with e
      exact hp2 p hp hl e
    · exact h.apart b hb p hp hl e
  · rcases mem_set_of hb with rfl | hb
    · exact hl2
    · exact h.lowb b hb
theorem OutR.cells {w wr : World} {L : List Bx} {g cap k : Nat} {ls : List BxA} {x : Bx} {o : Option Addr} {c : Nat} (h : OutR w wr L g cap ls) (hk : k < L.length) (ha : Go.Proofs.Ytehpdjlidmhkmaa.getA ls k = ⟨x, o, c⟩) : wr.cell? ⟨g, k * 3, none⟩ = some (.int .i64 x.f) ∧ wr.cell? ⟨g, k * 3 + 1, none⟩ = some (.int .i64 x.x) ∧ wr.cell? ⟨g, k * 3 + 2, none⟩ = some (.slice o x.ws.length c) := by
  obtain ⟨h0, h1, h2⟩ := flatB_get ls k (by rw [h.len]; exact hk)
  rw [ha] at h0 h1 h2
  rw [h.row.cellAt _ (by omega), h.row.cellAt _ (by omega), h.row.cellAt _ (by omega)]
  exact ⟨h0, h1, h2⟩
theorem insCut {f p : Int} {ws : List Msg} {m : Msg} (h : waitsOk f p ws = true) (hn : hasN ws m.n = false) : ws.take (atN ws m.n) ++ m :: ws.drop (atN ws m.n) = insM ws m := cut_ins (cutN h) hn

/-! ### What is handed over, message by message -/
theorem ownsRow_turn {W W' : World} {base : Nat} {e : TypeId} {size : Nat} {v : Value} {n : Nat} {xs : List Value} {row : Option Nat} (h : W.ownsRow base e size v n xs) (hg : W.grownBy W' row) (hr : ∀ r, row = some r → ∃ o : Obj, W.heap[r]? = some o ∧ o.isCells = false) : W'.ownsRow base e size v n xs := by
  refine h.kept (row := row) hg ?_
  rcases h.2 with ⟨rfl, _⟩ | ⟨g, cap, cur, rfl, _, hgg, _⟩
  · exact .inl rfl
  · right
    intro e'
    obtain ⟨o, ho, hc⟩ := hr g e'.symm
    rw [hgg] at ho
    cases ho
    cases hc

/-- The box of what is handed over, and its row; all below B is as in W0. -/
structure OvSt (W0 W : World) (B : Nat) (pre : List Msg) (v : Value) : Prop where
  box : Blk W B 27 #[v]
  row : W.ownsRow W0.heap.size 24 3 v pre.length (flatM pre)
  bel : Below B W0 W
  lt : B < W0.heap.size
theorem OvSt.turn {W0 W W' : World} {B : Nat} {pre : List Msg} {v : Value} {row : Option Nat} (h : OvSt W0 W B pre v) (hg : W.grownBy W' row) (hr : ∀ r, row = some r → W0.heap.size ≤ r ∧ ∃ o : Obj, W.heap[r]? = some o ∧ o.isCells = false) : OvSt W0 W' B pre v := by
  have hlt := h.lt
  refine ⟨(hg.block B h.box.lt (fun e => ?_)).trans h.box, ownsRow_turn h.row hg (fun r e => (hr r e).2), h.bel.grown hg (Nat.le_trans (Nat.le_of_lt hlt) h.bel.size) (fun k e => ?_), hlt⟩
  · have := (hr B e.symm).1
    omega
  · have := (hr k e).1
    omega
theorem OvSt.later {W0 W W' : World} {B : Nat} {pre : List Msg} {v : Value} (h : OvSt W0 W B pre v) (hb : Below W.heap.size W W') : OvSt W0 W' B pre v := h.turn (grownNone hb) (fun r e => by cases e)
theorem OvSt.step {W0 W W1 : World} {B : Nat} {pre : List Msg} {v v' : Value} {x : Msg} (h : OvSt W0 W B pre v) (ho : W1.ownsRow W0.heap.size 24 3 v' (pre.length + 1) (flatM pre ++ msgC x)) (hg : W.grownBy W1 v.ownBlock) : OvSt W0 (W1.setCell ⟨B, 0, none⟩ v') B (pre ++ [x]) v' := by
  have hlt := h.lt
  have hv : ∀ k, v.ownBlock = some k → W0.heap.size ≤ k := fun k e => (h.row.lt k e).1
  have hbox : Blk W1 B 27 #[v] := (hg.block B h.box.lt (fun e => by have := hv B e.symm; omega)).trans h.box
  refine ⟨by have := hbox.set 0 v'; simpa using this, ?_, ?_, hlt⟩
  · have := ownsRow_setCell_below (a := ⟨B, 0, none⟩) ho hlt v'
    rw [List.length_append, flatM_append, flatM_one]
    exact this
  · refine (h.bel.grown hg (Nat.le_trans (Nat.le_of_lt hlt) h.bel.size) (fun k e => ?_)).setCell (Nat.le_refl _) _
    have := hv k e
    omega
theorem OvSt.keeps {W0 W W1 : World} {B : Nat} {pre : List Msg} {v v' : Value} (h : OvSt W0 W B pre v) (hg : W.grownBy W1 v.ownBlock) : KeepsOthers W (W1.setCell ⟨B, 0, none⟩ v') := by
  refine (KeepsOthers.of_grownBy hg (fun j o e ho => ?_)).trans (KeepsOthers.setCell _ _ _)
  rcases h.row.2 with ⟨rfl, _⟩ | ⟨g, cap, cur, rfl, _, hgg, _⟩
  · cases e
  · injection e with e
    have e' : g = j := e
    subst e'
    rw [hgg] at ho
    cases ho
    rfl
theorem OvSt.kpr {W0 W W1 : World} {B q : Nat} {pre : List Msg} {v v' : Value} (h : OvSt W0 W B pre v) (hq : q + 2 = W0.heap.size) (hBq : B < q) (hg : W.grownBy W1 v.ownBlock) : KpR B q W (W1.setCell ⟨B, 0, none⟩ v') := by
  have hlt := h.lt
  have hsz := h.bel.size
  have hv : ∀ k, v.ownBlock = some k → W0.heap.size ≤ k := fun k e => (h.row.lt k e).1
  refine ⟨((Below.refl B W).grown hg (by omega) (fun k e => by have := hv k e; omega)).setCell (Nat.le_refl _) _, ?_, ?_⟩
  · rw [Below.heap_setCell _ _ _ _ (by simp only; omega)]
    exact hg.block q (by omega) (fun e => by have := hv q e.symm; omega)
  · rw [Below.heap_setCell _ _ _ _ (by simp only; omega)]
    exact hg.block (q + 1) (by omega) (fun e => by have := hv (q + 1) e.symm; omega)
/-- The row of the inboxes, where all below B is as it was. -/
theorem OutR.low {w W W' : World} {L : List Bx} {g cap B : Nat} {ls : List BxA} (h : OutR w W L g cap ls) (_hB : B ≤ W.heap.size) (hg : g < B) (hw : w.heap.size ≤ B) (hlow : ∀ a ∈ ls, ∀ p : Addr, a.o = some p → 0 < a.b.ws.length → p.block < B) (hb : Below B W W') : OutR w W' L g cap ls := by
  refine ⟨h.eq, ⟨⟨h.row.own.1, ?_⟩, h.row.below.trans (hb.mono hw)⟩, fun a ha => ⟨(h.good a ha).ms.low (hlow a ha) hb, (h.good a ha).le, (h.good a ha).cap⟩, h.apart, h.lowb⟩
  rcases h.row.own.2 with h0 | ⟨g', cap', cur, hv, hg', hgg, h5⟩
  · exact .inl h0
  · refine .inr ⟨g', cap', cur, hv, hg', ?_, h5⟩
    injection hv with hv
    injection hv with hv
    injection hv with hv
    subst hv
    rw [hb.block g hg]
    exact hgg
theorem ready_stops (n q n₀ : Nat) (m : Msg) (o : Option Addr) (cap : Nat) (ws : List Msg) (hl : ws.length ≤ 1000) (hmn : 1 ≤ m.n ∧ m.n ≤ 1000000) (w : World) (hlow : ∀ p : Addr, o = some p → 0 < ws.length → p.block < n₀) (hq : Blk w q 24 #[.int .i64 m.f, .int .i64 m.n, .int .i64 m.b]) (hq2 : Blk w (q + 1) 27 #[.slice o ws.length cap]) (hr : Msgs w o ws) :
    SeqStopsK Fence.wide n Try.prog 40 #[.pointer (some ⟨q, 0, none⟩), .pointer (some ⟨q + 1, 0, none⟩)] encM (KpR n₀ q) (fun xs => xs = m :: runOf (m.n + 1) ws) (fun _ => True) (ws.length + 1) w :=
  fun lp J Jx W hW hJ hJx hY h0 => ready1_in n lp q n₀ m o cap ws J Jx hl hmn hlow hY W hJ hJx (hq.later hW) (hq2.later hW) (hr.later hW) h0

/-- s[k:n:n]. -/
theorem run_slice_full {P : Program} {t e : TypeId} {size bytes : Nat} (hI : ElemI P t e size bytes) (o : Option Addr) (n cap k : Nat) (hk : k ≤ n) (hn : n ≤ cap) (w : World) :
    (Instr.slice t (.slice o n cap) (some (.int .i64 (k : Nat))) (some (.int .i64 (n : Nat))) (some (.int .i64 (n : Nat)))).run P w = .ok (.slice (fromA o k size n) (n - k) (n - k)) w := by
  obtain ⟨i, z, hi, hz, h2, h3, h4⟩ := hI.info
  simp [Instr.slice, run_underlying hI.under, Instr.sliceBounds, Instr.sliceBound, asIntOf, hk, hn, sizeOf, typeInfo, hi, h2, fromA]
theorem Msgs.from {w : World} {o : Option Addr} {l : List Msg} (h : Msgs w o l) (k : Nat) : Msgs w (fromA o k 3 l.length) (l.drop k) := by
  have h1 := h.cells.from (k := k) (size := 3) (cap := l.length) (by rw [flatM_length]; exact Nat.le_refl _)
  rw [(flatM_take l k).2] at h1
  exact h1.msgs
theorem fromA_block {o : Option Addr} {k size cap : Nat} {p : Addr} (h : fromA o k size cap = some p) : ∃ p', o = some p' ∧ p'.block = p.block := by
  unfold fromA at h
  split at h
  · exact ⟨p, h, rfl⟩
  · cases o with
    | none => cases h
    | some a =>
      simp only [Option.map_some, Option.some.injEq] at h
      exact ⟨a, rfl, by rw [← h]; obtain ⟨b, off, s⟩ := a; unfold Addr.add; split <;> rfl⟩
theorem ownsRow_shape {W : World} {base : Nat} {e : TypeId} {size : Nat} {v : Value} {n : Nat} {xs : List Value} (h : W.ownsRow base e size v n xs) : ∃ o cap, v = .slice o n cap ∧ n ≤ cap := by
  rcases h.2 with ⟨rfl, rfl⟩ | ⟨g, cap, _, rfl, _, _, hc, _⟩
  · exact ⟨none, 0, rfl, Nat.le_refl _⟩
  · exact ⟨some ⟨g, 0, none⟩, cap, rfl, hc⟩
theorem ownsRow_msgs {W : World} {base : Nat} {e : TypeId} {o : Option Addr} {n cap : Nat} {l : List Msg} (h : W.ownsRow base e 3 (.slice o n cap) n (flatM l)) : Msgs W o l := by
  refine Cells.msgs (fun j u hj => ?_)
  rcases h.2 with ⟨hv, hn⟩ | ⟨g, c, _, hv, _⟩
  · have := h.1
    rw [hn, Nat.zero_mul] at this
    rw [List.eq_nil_of_length_eq_zero this] at hj
    cases hj
  · injection hv with ho
    refine ⟨g, 0, ho, ?_⟩
    have := h.cells (g := g) (by rw [ho]; rfl) j u hj
    rw [Addr.add_lit] at this
    exact this
theorem below_put {B : Nat} (W : World) (D : Nat) (o : Obj) (hB : B ≤ W.heap.size) (hD : B ≤ D) : Below B W (W.putObj D o) := (Below.refl _ _).grown (grownBy_putObj' W D o) hB (fun k e => by cases e; exact hD)

/-- Inboxes that lie in blocks that are not below B. -/
def BxsL (B : Nat) (w : World) (o : Option Addr) (l : List Bx) : Prop := ∃ ls, bxs ls = l ∧ Good w ls ∧ Cells w o (flatB ls) ∧ (∀ p : Addr, o = some p → B ≤ p.block) ∧ ∀ a ∈ ls, LowA B a
theorem BxsL.bxs {B : Nat} {w : World} {o : Option Addr} {l : List Bx} (h : BxsL B w o l) : Bxs w o l := by
  obtain ⟨ls, rfl, hg, hc, _, _⟩ := h
  exact hc.bxs hg
theorem BxsL.nil {B : Nat} {w : World} : BxsL B w none [] := ⟨[], rfl, Good.nil, (fun j u hj => by simp [flatB] at hj), (fun p hp => by cases hp), fun a ha => by cases ha⟩
theorem OutR.bxsL {w wr : World} {L : List Bx} {g cap B : Nat} {ls : List BxA} (h : OutR w wr L g cap ls) (hB : B ≤ w.heap.size) : BxsL B wr (some ⟨g, 0, none⟩) L :=
  ⟨ls, h.eq, h.good, h.row.cells, (fun p hp => by injection hp with hp; subst hp; exact Nat.le_trans hB h.row.block.1), fun a ha => (h.lowb a ha).mono hB⟩
/-- What Receive leaves, and where it lies. -/
def RecvNew (l : List Bx) (m : Msg) (w : World) (e : Ending) (w' : World) : Prop :=
  Below w.heap.size w w' ∧ ∃ (o o2 : Option Addr) (cap cap2 : Nat), e = .returned (.tuple #[.slice o (outL l m).length cap, .slice o2 (outM l m).length cap2, .int .i64 (recvE l m)]) ∧ BxsL w.heap.size w' o (outL l m) ∧ Msgs w' o2 (outM l m) ∧ ∀ p : Addr, o2 = some p → w.heap.size ≤ p.block
theorem RecvNew.out {l : List Bx} {m : Msg} {w w' : World} {e : Ending} (h : RecvNew l m w e w') : RecvOut l m w e w' := by
  obtain ⟨hb, o, o2, cap, cap2, he, h1, h2, _⟩ := h
  exact ⟨hb, o, o2, cap, cap2, he, h1.bxs, h2⟩
theorem RecvNew.err {l : List Bx} {m : Msg} {w w' : World} {E : Int} (hb : Below w.heap.size w w') (hE : recvE l m = E) (h0 : ¬ E = 0) : RecvNew l m w (.returned (.tuple #[.slice none 0 0, .slice none 0 0, .int .i64 E])) w' := by
  have e1 : outL l m = [] := by unfold outL; rw [hE, if_neg h0]
  have e2 : outM l m = [] := by unfold outM; rw [hE, if_neg h0]
  refine ⟨hb, none, none, 0, 0, ?_, ?_, ?_, fun p hp => by cases hp⟩
  · rw [e1, e2, hE]; rfl
  · rw [e1]; exact BxsL.nil
  · rw [e2]; exact Msgs.nil
theorem RecvNew.ok {l : List Bx} {m : Msg} {w w' : World} {o o2 : Option Addr} {n n2 cap cap2 : Nat} {L : List Bx} {M : List Msg} (hb : Below w.heap.size w w') (h0 : recvE l m = 0) (hL : recvL l m = L) (hM : overOf l m = M) (hn : L.length = n) (hn2 : M.length = n2) (h1 : BxsL w.heap.size w' o L) (h2 : Msgs w' o2 M) (h3 : ∀ p : Addr, o2 = some p → w.heap.size ≤ p.block) : RecvNew l m w (.returned (.tuple #[.slice o n cap, .slice o2 n2 cap2, .int .i64 0])) w' := by
  have e1 : outL l m = L := by unfold outL; rw [if_pos h0, hL]
  have e2 : outM l m = M := by unfold outM; rw [if_pos h0, hM]
  refine ⟨hb, o, o2, cap, cap2, ?_, ?_, ?_, h3⟩
  · rw [e1, e2, h0, hn, hn2]
  · rw [e1]; exact h1
  · rw [e2]; exact h2
end Go.Proofs.Ytehpdjlidmhkmaa
