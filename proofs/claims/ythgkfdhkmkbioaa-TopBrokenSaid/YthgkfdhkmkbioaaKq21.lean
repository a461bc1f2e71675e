/- Package replan: Keep's memory; one try. -/
import Derived.Test.YthgkfdhkmkbioaaKp21
namespace Go.Proofs.Ythgkfdhkmkbioaa
open Go.RowKit Go.Shelf
attribute [local go_sem] Oper.semAt_some

theorem elemC : ElemI Try.prog 44 30 2 48 := ElemI.of Try.underlying44 (by kernel_rfl) (by decide)
abbrev Ct := Nat × List Nat × List Nat
def getC (CL : List Ct) (i : Nat) : Ct := CL.getD i (0, [], [])
def flatC (vs : List (Value × Value)) : List Value := vs.flatMap fun p => [p.1, p.2]
theorem flatC_snoc (vs : List (Value × Value)) (a b : Value) : flatC (vs ++ [(a, b)]) = flatC vs ++ [a, b] := by simp [flatC]
theorem flatC_get : ∀ {vs : List (Value × Value)} {i : Nat}, i < vs.length → (flatC vs)[i * 2]? = some (vs.getD i (undef, undef)).1 ∧ (flatC vs)[i * 2 + 1]? = some (vs.getD i (undef, undef)).2
  | [], _, h => absurd h (Nat.not_lt_zero _)
  | _ :: _, 0, _ => ⟨rfl, rfl⟩
  | x :: l, i + 1, h => by
    have := flatC_get (vs := l) (i := i) (by simpa using h)
    rw [show (i + 1) * 2 = i * 2 + 2 by omega]
    exact this
/-- A row of cuts, each with its two lists. -/
structure CutsM (base : Nat) (W : World) (cv : Value) (CL : List Ct) (vs : List (Value × Value)) : Prop where
  row : W.ownsRow base 30 2 cv CL.length (flatC vs)
  len : vs.length = CL.length
  at' : ∀ i, i < CL.length → W.ownsRow base 3 1 (vs.getD i (undef, undef)).1 (getC CL i).2.1.length (intsV (natI (getC CL i).2.1)) ∧ W.ownsRow base 3 1 (vs.getD i (undef, undef)).2 (getC CL i).2.2.length (intsV (natI (getC CL i).2.2))
theorem CutsM.nil (base : Nat) (W : World) : CutsM base W (.slice none 0 0) [] [] := ⟨World.ownsRow_nil .., rfl, fun _i hi => absurd hi (Nat.not_lt_zero _)⟩
theorem CutsM.later {base : Nat} {W W' : World} {cv : Value} {CL : List Ct} {vs : List (Value × Value)} (h : CutsM base W cv CL vs) (hb : Below W.heap.size W W') : CutsM base W' cv CL vs :=
  ⟨ownsRow_later h.row hb, h.len, fun i hi => ⟨ownsRow_later (h.at' i hi).1 hb, ownsRow_later (h.at' i hi).2 hb⟩⟩
theorem CutsM.other {base : Nat} {W : World} {cv : Value} {CL : List Ct} {vs : List (Value × Value)} (h : CutsM base W cv CL vs) {B i : Nat} {t : TypeId} {cs : Array Value} (hB : Blk W B t cs) (h1 : t ≠ 3) (h2 : t ≠ 30) (u : Value) : CutsM base (W.setCell ⟨B, i, none⟩ u) cv CL vs :=
  ⟨ownsRow_setCell_other (a := ⟨B, i, none⟩) h.row (Blk.not_row hB h2 h.row) u, h.len, fun k hk => ⟨ownsRow_setCell_other (a := ⟨B, i, none⟩) (h.at' k hk).1 (Blk.not_row hB h1 (h.at' k hk).1) u, ownsRow_setCell_other (a := ⟨B, i, none⟩) (h.at' k hk).2 (Blk.not_row hB h1 (h.at' k hk).2) u⟩⟩
theorem rows_ne {W : World} {b b' n n' s s' : Nat} {t t' : TypeId} {v v' : Value} {xs xs' : List Value} (h : W.ownsRow b t s v n xs) (h' : W.ownsRow b' t' s' v' n' xs') (hne : t ≠ t') : v.ownBlock = none ∨ v.ownBlock ≠ v'.ownBlock := by
  rcases h.2 with ⟨rfl, _⟩ | ⟨g, c, cur, rfl, _, hg, _⟩
  · exact .inl rfl
  · right
    rcases h'.2 with ⟨rfl, _⟩ | ⟨g', c', cur', rfl, _, hg', _⟩
    · intro e; cases e
    · intro e
      have e2 : g = g' := by simpa [Value.ownBlock] using e
      subst e2
      rw [hg] at hg'
      cases hg'
      exact hne rfl
/-- Keep's memory. -/
structure KeM (w W : World) (KB JB SB CB : Nat) (oj : Option Addr) (n cj : Nat) (os : Option Addr) (m cs : Nat) (ov : Value) (ol : List Int) (K : List Nat) (CL : List Ct) (kv cv : Value) : Prop where
  bel : Below w.heap.size w W
  kb : Blk W KB 23 #[kv]
  jb : Blk W JB 22 #[.slice oj n cj]
  sb : Blk W SB 23 #[.slice os m cs]
  cb : Blk W CB 44 #[cv]
  nks : KB ≠ SB
  low : w.heap.size ≤ KB ∧ w.heap.size ≤ CB
  kr : W.ownsRow w.heap.size 3 1 kv K.length (intsV (natI K))
  kn : K = [] → kv = .slice none 0 0
  cm : ∃ vs, CutsM w.heap.size W cv CL vs
  orr : W.ownsRow w.heap.size 3 1 ov ol.length (intsV ol)
theorem KeM.later {w W W' : World} {KB JB SB CB : Nat} {oj : Option Addr} {n cj : Nat} {os : Option Addr} {m cs : Nat} {ov : Value} {ol : List Int} {K : List Nat} {CL : List Ct} {kv cv : Value} (h : KeM w W KB JB SB CB oj n cj os m cs ov ol K CL kv cv) (hb : Below W.heap.size W W') : KeM w W' KB JB SB CB oj n cj os m cs ov ol K CL kv cv :=
  ⟨below_step h.bel hb, h.kb.later hb, h.jb.later hb, h.sb.later hb, h.cb.later hb, h.nks, h.low, ownsRow_later h.kr hb, h.kn, (by obtain ⟨vs, h⟩ := h.cm; exact ⟨vs, h.later hb⟩), ownsRow_later h.orr hb⟩
/-- One more is kept. -/
theorem KeM.keep {w W : World} {KB JB SB CB : Nat} {oj : Option Addr} {n cj : Nat} {os : Option Addr} {m cs : Nat} {ov : Value} {ol : List Int} {K : List Nat} {CL : List Ct} {kv cv : Value} (h : KeM w W KB JB SB CB oj n cj os m cs ov ol K CL kv cv) {i : Nat} {v : Value} (hr : W.ownsRow w.heap.size 3 1 v (K.length + 1) (intsV (natI (K ++ [i])))) : KeM w (W.setCell ⟨KB, 0, none⟩ v) KB JB SB CB oj n cj os m cs ov ol (K ++ [i]) CL v cv :=
  ⟨h.bel.setCell h.low.1 _, by have := h.kb.set 0 v; simpa using this, h.jb.other (p := ⟨KB, 0, none⟩) (Blk.ne h.jb h.kb (by decide)) _, h.sb.other (p := ⟨KB, 0, none⟩) h.nks.symm _, h.cb.other (p := ⟨KB, 0, none⟩) (Blk.ne h.cb h.kb (by decide)) _, h.nks, h.low, by
    rw [List.length_append]
    exact ownsRow_setCell_other (a := ⟨KB, 0, none⟩) hr (Blk.not_row h.kb (by decide) hr) v, fun e => absurd e (by simp), (by
    obtain ⟨vs, hc⟩ := h.cm
    exact ⟨vs, hc.other h.kb (by decide) (by decide) v⟩), ownsRow_setCell_other (a := ⟨KB, 0, none⟩) h.orr (Blk.not_row h.kb (by decide) h.orr) v⟩
theorem getC_snoc_old {CL : List Ct} {c : Ct} {k : Nat} (h : k < CL.length) : getC (CL ++ [c]) k = getC CL k := by
  unfold getC
  rw [List.getD_eq_getElem?_getD, List.getElem?_append_left h, ← List.getD_eq_getElem?_getD]
theorem getC_snoc_new (CL : List Ct) (c : Ct) : getC (CL ++ [c]) CL.length = c := by
  unfold getC
  rw [List.getD_eq_getElem?_getD, List.getElem?_append_right (Nat.le_refl _), Nat.sub_self]
  rfl
/-- One cut more. -/
theorem KeM.cut {w W W' : World} {KB JB SB CB : Nat} {oj : Option Addr} {n cj : Nat} {os : Option Addr} {m cs : Nat} {ov : Value} {ol : List Int} {K : List Nat} {CL : List Ct} {kv cv : Value} {vs : List (Value × Value)} (h : KeM w W KB JB SB CB oj n cj os m cs ov ol K CL kv cv) (hc : CutsM w.heap.size W cv CL vs) {i : Nat} {cl tl : List Nat} {a b : Value} (ha : W.ownsRow w.heap.size 3 1 a cl.length (intsV (natI cl))) (hb : W.ownsRow w.heap.size 3 1 b tl.length (intsV (natI tl))) {cv' : Value} (ho : W'.ownsRow w.heap.size 30 2 cv' (CL.length + 1) (flatC vs ++ [a, b])) (hg : (W.alloc (.cells #[a, b] 30)).grownBy W' cv.ownBlock) : KeM w (W'.setCell ⟨CB, 0, none⟩ cv') KB JB SB CB oj n cj os m cs ov ol K (CL ++ [(i, cl, tl)]) kv cv' := by
  have hal : Below W.heap.size W (W.alloc (.cells #[a, b] 30)) := below_alloc (Below.refl _ _) _
  have h1 := h.later hal
  have hc1 := hc.later hal
  have hr1 := hc1.row
  have blk : ∀ {B : Nat} {t : TypeId} {cs : Array Value}, Blk (W.alloc (.cells #[a, b] 30)) B t cs → t ≠ 30 → Blk W' B t cs := fun hB hne => (hg.block _ hB.lt (fun e => Blk.not_row hB hne hr1 e.symm)).trans hB
  have row : ∀ {v : Value} {n : Nat} {xs : List Value}, (W.alloc (.cells #[a, b] 30)).ownsRow w.heap.size 3 1 v n xs → W'.ownsRow w.heap.size 3 1 v n xs := fun hv => hv.kept hg (rows_ne hv hr1 (by decide))
  have hcb := blk h1.cb (by decide)
  have set : ∀ {v : Value} {n : Nat} {xs : List Value}, W'.ownsRow w.heap.size 3 1 v n xs → (W'.setCell ⟨CB, 0, none⟩ cv').ownsRow w.heap.size 3 1 v n xs := fun hv => ownsRow_setCell_other (a := ⟨CB, 0, none⟩) hv (Blk.not_row hcb (by decide) hv) cv'
  refine ⟨(h1.bel.grown hg h1.bel.size (fun k e => (hr1.lt k e).1)).setCell h.low.2 _, (blk h1.kb (by decide)).other (p := ⟨CB, 0, none⟩) (Blk.ne h.kb h.cb (by decide)) _, (blk h1.jb (by decide)).other (p := ⟨CB, 0, none⟩) (Blk.ne h.jb h.cb (by decide)) _, (blk h1.sb (by decide)).other (p := ⟨CB, 0, none⟩) (Blk.ne h.sb h.cb (by decide)) _, by have := hcb.set 0 cv'; simpa using this, h.nks, h.low, set (row h1.kr), h.kn, ⟨vs ++ [(a, b)], ?_, ?_, fun k hk => ?_⟩, set (row h1.orr)⟩
  · rw [List.length_append, flatC_snoc]
    exact ownsRow_setCell_other (a := ⟨CB, 0, none⟩) ho (Blk.not_row hcb (by decide) ho) cv'
  · rw [List.length_append, List.length_append, hc.len]; rfl
  · by_cases e : k < CL.length
    · rw [getC_snoc_old e, List.getD_eq_getElem?_getD, List.getElem?_append_left (by rw [hc.len]; exact e), ← List.getD_eq_getElem?_getD]
      exact ⟨set (row (hc1.at' k e).1), set (row (hc1.at' k e).2)⟩
    · obtain rfl : k = CL.length := by rw [List.length_append, List.length_singleton] at hk; omega
      rw [getC_snoc_new, List.getD_eq_getElem?_getD, List.getElem?_append_right (by rw [hc.len]; exact Nat.le_refl _), hc.len, Nat.sub_self]
      exact ⟨set (row (ownsRow_later ha hal)), set (row (ownsRow_later hb hal))⟩
/-- A clone of what is kept. -/
theorem cloneK_any {w W : World} {kv : Value} {K : List Nat} (h : W.ownsRow w.heap.size 3 1 kv K.length (intsV (natI K))) (hn : K = [] → kv = .slice none 0 0) (hl : K.length ≤ 12) : Calls Try.prog 30 #[kv] W (CloneOut (natI K) W) := by
  by_cases h0 : K = []
  · rw [hn h0, h0]
    exact (cloneNil_any W).mono fun e w' he => ⟨by rw [he.2]; exact Below.refl _ _, .slice none 0 0, he.1, World.ownsRow_nil ..⟩
  · rcases h.2 with ⟨_, h1⟩ | ⟨g, c, cur, rfl, _⟩
    · exact absurd (List.eq_nil_of_length_eq_zero h1) h0
    · have := clone_any g 0 c (natI K) W (row_ints h) (by rw [natI_length]; omega)
      rwa [natI_length] at this
theorem SchedOut.later {w W W' : World} {J : List Jb} {S : List Int} {e : Ending} (h : SchedOut w W J S e) (hb : Below W.heap.size W W') : SchedOut w W' J S e := by
  refine ⟨below_step h.bel hb, ?_⟩
  rcases h.ex with ⟨AL, OB, L, P, h1, h2, h3, h4, h5⟩ | ⟨v1, v2, C1, T, h1, h2, h3, h4⟩
  · exact .inl ⟨AL, OB, L, P, h1, h2, h3.later hb, h4.later hb, h5⟩
  · exact .inr ⟨v1, v2, C1, T, h1, ownsRow_later h2 hb, ownsRow_later h3 hb, h4⟩
theorem SchedOut.val {w W : World} {J : List Jb} {S : List Int} {e : Ending} (h : SchedOut w W J S e) : ∃ v, e = .returned v := by
  rcases h.ex with ⟨AL, OB, L, P, h1, _⟩ | ⟨v1, v2, C1, T, h1, _⟩
  · exact ⟨_, h1⟩
  · exact ⟨_, h1⟩
theorem SchedOut.shape2 {w W : World} {J : List Jb} {S : List Int} {v : Value} (h : SchedOut w W J S (.returned v)) : ∃ p q1 q2 q3 q4 q5 q6 r, v = .tuple #[p, .agg #[.slice q1 q2 q3, .slice q4 q5 q6], r] := by
  rcases h.ex with ⟨AL, OB, L, P, h1, _⟩ | ⟨v1, v2, C1, T, h1, h2, h3, _⟩
  · injection h1 with h1
    exact ⟨_, _, _, _, _, _, _, _, h1⟩
  · obtain ⟨o1, c1, rfl, _⟩ := ownsRow_shapeQ h2
    obtain ⟨o2, c2, rfl, _⟩ := ownsRow_shapeQ h3
    injection h1 with h1
    exact ⟨_, _, _, _, _, _, _, _, h1⟩
theorem SchedOut.shape {w W : World} {J : List Jb} {S : List Int} {v : Value} (h : SchedOut w W J S (.returned v)) : ∃ p q r, v = .tuple #[p, q, r] := by
  obtain ⟨p, q1, q2, q3, q4, q5, q6, r, e⟩ := h.shape2
  exact ⟨_, _, _, e⟩
def tg (v : Value) (i : Nat) : Value := match v with
  | .tuple vs => vs.getD i undef
  | _ => undef
/-- While '_, cut, err := plan.Schedule(some(..), ..)' is carried out. -/
structure KtI (w wr : World) (J : List Jb) (S : List Int) (rest : List Nat) (x21 x23 x18 x24 x25 x26 x8 x7 x9 : Value) : Prop where
  bel : Below w.heap.size w wr
  f2 : 2 ∉ rest → 4 ∈ rest → ∃ o c, x21 = .slice o J.length c ∧ JobsM wr o J
  f4 : 4 ∉ rest → SchedOut w wr J S (.returned x23)
  f5 : 5 ∉ rest → 4 ∉ rest ∧ x18 = x23
  f6 : 6 ∉ rest → 5 ∉ rest ∧ x24 = tg x23 0
  f7 : 7 ∉ rest → 5 ∉ rest ∧ x25 = tg x23 1
  f8 : 8 ∉ rest → 5 ∉ rest ∧ x26 = tg x23 2
  f9 : 9 ∉ rest → ∃ A, x8 = .pointer (some ⟨A, 0, none⟩) ∧ w.heap.size ≤ A ∧ (11 ∈ rest → Blk wr A 30 #[.slice none 0 0, .slice none 0 0]) ∧ (11 ∉ rest → ∃ a b, x25 = .agg #[a, b] ∧ Blk wr A 30 #[a, b])
  f11 : 11 ∉ rest → 7 ∉ rest ∧ 9 ∉ rest
  f10 : 10 ∉ rest → 6 ∉ rest ∧ x7 = x24
  f12 : 12 ∉ rest → 8 ∉ rest ∧ x9 = x26
section
variable {w wr wr' : World} {J : List Jb} {S : List Int} {rest : List Nat} {x21 x23 x18 x24 x25 x26 x8 x7 x9 v : Value}
theorem KtI.start (hb : Below w.heap.size w wr) : KtI w wr J S [2, 4, 5, 6, 7, 8, 9, 10, 11, 12] x21 x23 x18 x24 x25 x26 x8 x7 x9 :=
  ⟨hb, fun h => absurd (by decide) h, fun h => absurd (by decide) h, fun h => absurd (by decide) h, fun h => absurd (by decide) h, fun h => absurd (by decide) h, fun h => absurd (by decide) h, fun h => absurd (by decide) h, fun h => absurd (by decide) h, fun h => absurd (by decide) h, fun h => absurd (by decide) h⟩
theorem KtI.s2 (h : KtI w wr J S rest x21 x23 x18 x24 x25 x26 x8 x7 x9) (_hn : rest.Nodup) (_hc : 2 ∈ rest) (hb : Below wr.heap.size wr wr') (hv : ∃ o c, v = .slice o J.length c ∧ JobsM wr' o J) : KtI w wr' J S (rest.erase 2) v x23 x18 x24 x25 x26 x8 x7 x9 := by
  refine ⟨below_step h.bel hb, ?_, ?_, ?_, ?_, ?_, ?_, ?_, ?_, ?_, ?_⟩
  · exact fun _ _ => hv
  · exact fun h4 => (h.f4 (not_erase h4 (by decide))).later hb
  · exact fun h5 => ⟨fun hm => (h.f5 (not_erase h5 (by decide))).1 (in_erase hm), (h.f5 (not_erase h5 (by decide))).2⟩
  · exact fun h6 => ⟨fun hm => (h.f6 (not_erase h6 (by decide))).1 (in_erase hm), (h.f6 (not_erase h6 (by decide))).2⟩
  · exact fun h7 => ⟨fun hm => (h.f7 (not_erase h7 (by decide))).1 (in_erase hm), (h.f7 (not_erase h7 (by decide))).2⟩
  · exact fun h8 => ⟨fun hm => (h.f8 (not_erase h8 (by decide))).1 (in_erase hm), (h.f8 (not_erase h8 (by decide))).2⟩
  · intro h9
    obtain ⟨A, e1, e2, e3, e4⟩ := h.f9 (not_erase h9 (by decide))
    refine ⟨A, e1, e2, fun h11 => (e3 (in_erase h11)).later hb, fun h11 => by
      obtain ⟨a, b, e5, e6⟩ := e4 (not_erase h11 (by decide))
      exact ⟨a, b, e5, e6.later hb⟩⟩
  · exact fun h11 => ⟨fun hm => (h.f11 (not_erase h11 (by decide))).1 (in_erase hm), fun hm => (h.f11 (not_erase h11 (by decide))).2 (in_erase hm)⟩
  · exact fun h10 => ⟨fun hm => (h.f10 (not_erase h10 (by decide))).1 (in_erase hm), (h.f10 (not_erase h10 (by decide))).2⟩
  · exact fun h12 => ⟨fun hm => (h.f12 (not_erase h12 (by decide))).1 (in_erase hm), (h.f12 (not_erase h12 (by decide))).2⟩
theorem KtI.s4 (h : KtI w wr J S rest x21 x23 x18 x24 x25 x26 x8 x7 x9) (hn : rest.Nodup) (hc : 4 ∈ rest) (hb : Below wr.heap.size wr wr') (hv : SchedOut w wr' J S (.returned v)) : KtI w wr' J S (rest.erase 4) x21 v x18 x24 x25 x26 x8 x7 x9 := by
  refine ⟨below_step h.bel hb, ?_, ?_, ?_, ?_, ?_, ?_, ?_, ?_, ?_, ?_⟩
  · exact fun _ h4 => absurd h4 hn.not_mem_erase
  · exact fun _ => hv
  · exact fun h5 => absurd hc (h.f5 (not_erase h5 (by decide))).1
  · exact fun h6 => absurd hc (h.f5 (h.f6 (not_erase h6 (by decide))).1).1
  · exact fun h7 => absurd hc (h.f5 (h.f7 (not_erase h7 (by decide))).1).1
  · exact fun h8 => absurd hc (h.f5 (h.f8 (not_erase h8 (by decide))).1).1
  · intro h9
    obtain ⟨A, e1, e2, e3, e4⟩ := h.f9 (not_erase h9 (by decide))
    refine ⟨A, e1, e2, fun h11 => (e3 (in_erase h11)).later hb, fun h11 => by
      obtain ⟨a, b, e5, e6⟩ := e4 (not_erase h11 (by decide))
      exact ⟨a, b, e5, e6.later hb⟩⟩
  · exact fun h11 => ⟨fun hm => (h.f11 (not_erase h11 (by decide))).1 (in_erase hm), fun hm => (h.f11 (not_erase h11 (by decide))).2 (in_erase hm)⟩
  · exact fun h10 => ⟨fun hm => (h.f10 (not_erase h10 (by decide))).1 (in_erase hm), (h.f10 (not_erase h10 (by decide))).2⟩
  · exact fun h12 => ⟨fun hm => (h.f12 (not_erase h12 (by decide))).1 (in_erase hm), (h.f12 (not_erase h12 (by decide))).2⟩
theorem KtI.s5 (h : KtI w wr J S rest x21 x23 x18 x24 x25 x26 x8 x7 x9) (_hn : rest.Nodup) (hc : 5 ∈ rest) (h4i : 4 ∉ rest) (hv : v = x23) : KtI w wr J S (rest.erase 5) x21 x23 v x24 x25 x26 x8 x7 x9 := by
  refine ⟨h.bel, ?_, ?_, ?_, ?_, ?_, ?_, ?_, ?_, ?_, ?_⟩
  · intro h2 h4
    obtain ⟨o, c, e1, e2⟩ := h.f2 (not_erase h2 (by decide)) (in_erase h4)
    exact ⟨o, c, e1, e2⟩
  · exact fun h4 => h.f4 (not_erase h4 (by decide))
  · exact fun _ => ⟨fun hm => h4i (in_erase hm), hv⟩
  · exact fun h6 => absurd hc (h.f6 (not_erase h6 (by decide))).1
  · exact fun h7 => absurd hc (h.f7 (not_erase h7 (by decide))).1
  · exact fun h8 => absurd hc (h.f8 (not_erase h8 (by decide))).1
  · intro h9
    obtain ⟨A, e1, e2, e3, e4⟩ := h.f9 (not_erase h9 (by decide))
    refine ⟨A, e1, e2, fun h11 => (e3 (in_erase h11)), fun h11 => by
      obtain ⟨a, b, e5, e6⟩ := e4 (not_erase h11 (by decide))
      exact ⟨a, b, e5, e6⟩⟩
  · exact fun h11 => ⟨fun hm => (h.f11 (not_erase h11 (by decide))).1 (in_erase hm), fun hm => (h.f11 (not_erase h11 (by decide))).2 (in_erase hm)⟩
  · exact fun h10 => ⟨fun hm => (h.f10 (not_erase h10 (by decide))).1 (in_erase hm), (h.f10 (not_erase h10 (by decide))).2⟩
  · exact fun h12 => ⟨fun hm => (h.f12 (not_erase h12 (by decide))).1 (in_erase hm), (h.f12 (not_erase h12 (by decide))).2⟩
theorem KtI.s6 (h : KtI w wr J S rest x21 x23 x18 x24 x25 x26 x8 x7 x9) (_hn : rest.Nodup) (hc : 6 ∈ rest) (h5i : 5 ∉ rest) (hv : v = tg x23 0) : KtI w wr J S (rest.erase 6) x21 x23 x18 v x25 x26 x8 x7 x9 := by
  refine ⟨h.bel, ?_, ?_, ?_, ?_, ?_, ?_, ?_, ?_, ?_, ?_⟩
  · intro h2 h4
    obtain ⟨o, c, e1, e2⟩ := h.f2 (not_erase h2 (by decide)) (in_erase h4)
    exact ⟨o, c, e1, e2⟩
  · exact fun h4 => h.f4 (not_erase h4 (by decide))
  · exact fun h5 => ⟨fun hm => (h.f5 (not_erase h5 (by decide))).1 (in_erase hm), (h.f5 (not_erase h5 (by decide))).2⟩
  · exact fun _ => ⟨fun hm => h5i (in_erase hm), hv⟩
  · exact fun h7 => ⟨fun hm => (h.f7 (not_erase h7 (by decide))).1 (in_erase hm), (h.f7 (not_erase h7 (by decide))).2⟩
  · exact fun h8 => ⟨fun hm => (h.f8 (not_erase h8 (by decide))).1 (in_erase hm), (h.f8 (not_erase h8 (by decide))).2⟩
  · intro h9
    obtain ⟨A, e1, e2, e3, e4⟩ := h.f9 (not_erase h9 (by decide))
    refine ⟨A, e1, e2, fun h11 => (e3 (in_erase h11)), fun h11 => by
      obtain ⟨a, b, e5, e6⟩ := e4 (not_erase h11 (by decide))
      exact ⟨a, b, e5, e6⟩⟩
  · exact fun h11 => ⟨fun hm => (h.f11 (not_erase h11 (by decide))).1 (in_erase hm), fun hm => (h.f11 (not_erase h11 (by decide))).2 (in_erase hm)⟩
  · exact fun h10 => absurd hc (h.f10 (not_erase h10 (by decide))).1
  · exact fun h12 => ⟨fun hm => (h.f12 (not_erase h12 (by decide))).1 (in_erase hm), (h.f12 (not_erase h12 (by decide))).2⟩
theorem KtI.s7 (h : KtI w wr J S rest x21 x23 x18 x24 x25 x26 x8 x7 x9) (_hn : rest.Nodup) (hc : 7 ∈ rest) (h5i : 5 ∉ rest) (hv : v = tg x23 1) : KtI w wr J S (rest.erase 7) x21 x23 x18 x24 v x26 x8 x7 x9 := by
  refine ⟨h.bel, ?_, ?_, ?_, ?_, ?_, ?_, ?_, ?_, ?_, ?_⟩
  · intro h2 h4
    obtain ⟨o, c, e1, e2⟩ := h.f2 (not_erase h2 (by decide)) (in_erase h4)
    exact ⟨o, c, e1, e2⟩
  · exact fun h4 => h.f4 (not_erase h4 (by decide))
  · exact fun h5 => ⟨fun hm => (h.f5 (not_erase h5 (by decide))).1 (in_erase hm), (h.f5 (not_erase h5 (by decide))).2⟩
  · exact fun h6 => ⟨fun hm => (h.f6 (not_erase h6 (by decide))).1 (in_erase hm), (h.f6 (not_erase h6 (by decide))).2⟩
  · exact fun _ => ⟨fun hm => h5i (in_erase hm), hv⟩
  · exact fun h8 => ⟨fun hm => (h.f8 (not_erase h8 (by decide))).1 (in_erase hm), (h.f8 (not_erase h8 (by decide))).2⟩
  · intro h9
    obtain ⟨A, e1, e2, e3, e4⟩ := h.f9 (not_erase h9 (by decide))
    refine ⟨A, e1, e2, fun h11 => (e3 (in_erase h11)), fun h11 => absurd hc (h.f11 (not_erase h11 (by decide))).1⟩
  · exact fun h11 => absurd hc (h.f11 (not_erase h11 (by decide))).1
  · exact fun h10 => ⟨fun hm => (h.f10 (not_erase h10 (by decide))).1 (in_erase hm), (h.f10 (not_erase h10 (by decide))).2⟩
  · exact fun h12 => ⟨fun hm => (h.f12 (not_erase h12 (by decide))).1 (in_erase hm), (h.f12 (not_erase h12 (by decide))).2⟩
theorem KtI.s8 (h : KtI w wr J S rest x21 x23 x18 x24 x25 x26 x8 x7 x9) (_hn : rest.Nodup) (hc : 8 ∈ rest) (h5i : 5 ∉ rest) (hv : v = tg x23 2) : KtI w wr J S (rest.erase 8) x21 x23 x18 x24 x25 v x8 x7 x9 := by
  refine ⟨h.bel, ?_, ?_, ?_, ?_, ?_, ?_, ?_, ?_, ?_, ?_⟩
  · intro h2 h4
    obtain ⟨o, c, e1, e2⟩ := h.f2 (not_erase h2 (by decide)) (in_erase h4)
    exact ⟨o, c, e1, e2⟩
  · exact fun h4 => h.f4 (not_erase h4 (by decide))
  · exact fun h5 => ⟨fun hm => (h.f5 (not_erase h5 (by decide))).1 (in_erase hm), (h.f5 (not_erase h5 (by decide))).2⟩
  · exact fun h6 => ⟨fun hm => (h.f6 (not_erase h6 (by decide))).1 (in_erase hm), (h.f6 (not_erase h6 (by decide))).2⟩
  · exact fun h7 => ⟨fun hm => (h.f7 (not_erase h7 (by decide))).1 (in_erase hm), (h.f7 (not_erase h7 (by decide))).2⟩
  · exact fun _ => ⟨fun hm => h5i (in_erase hm), hv⟩
  · intro h9
    obtain ⟨A, e1, e2, e3, e4⟩ := h.f9 (not_erase h9 (by decide))
    refine ⟨A, e1, e2, fun h11 => (e3 (in_erase h11)), fun h11 => by
      obtain ⟨a, b, e5, e6⟩ := e4 (not_erase h11 (by decide))
      exact ⟨a, b, e5, e6⟩⟩
  · exact fun h11 => ⟨fun hm => (h.f11 (not_erase h11 (by decide))).1 (in_erase hm), fun hm => (h.f11 (not_erase h11 (by decide))).2 (in_erase hm)⟩
  · exact fun h10 => ⟨fun hm => (h.f10 (not_erase h10 (by decide))).1 (in_erase hm), (h.f10 (not_erase h10 (by decide))).2⟩
  · exact fun h12 => absurd hc (h.f12 (not_erase h12 (by decide))).1
theorem KtI.s9 (h : KtI w wr J S rest x21 x23 x18 x24 x25 x26 x8 x7 x9) (_hn : rest.Nodup) (hc : 9 ∈ rest) : KtI w (wr.alloc (.cells #[.slice none 0 0, .slice none 0 0] 30)) J S (rest.erase 9) x21 x23 x18 x24 x25 x26 (.pointer (some ⟨wr.heap.size, 0, none⟩)) x7 x9 := by
  have hb : Below wr.heap.size wr (wr.alloc (.cells #[.slice none 0 0, .slice none 0 0] 30)) := below_alloc (Below.refl _ _) _
  refine ⟨below_step h.bel hb, ?_, ?_, ?_, ?_, ?_, ?_, ?_, ?_, ?_, ?_⟩
  · intro h2 h4
    obtain ⟨o, c, e1, e2⟩ := h.f2 (not_erase h2 (by decide)) (in_erase h4)
    exact ⟨o, c, e1, e2.later hb⟩
  · exact fun h4 => (h.f4 (not_erase h4 (by decide))).later hb
  · exact fun h5 => ⟨fun hm => (h.f5 (not_erase h5 (by decide))).1 (in_erase hm), (h.f5 (not_erase h5 (by decide))).2⟩
  · exact fun h6 => ⟨fun hm => (h.f6 (not_erase h6 (by decide))).1 (in_erase hm), (h.f6 (not_erase h6 (by decide))).2⟩
  · exact fun h7 => ⟨fun hm => (h.f7 (not_erase h7 (by decide))).1 (in_erase hm), (h.f7 (not_erase h7 (by decide))).2⟩
  · exact fun h8 => ⟨fun hm => (h.f8 (not_erase h8 (by decide))).1 (in_erase hm), (h.f8 (not_erase h8 (by decide))).2⟩
  · exact fun _ => ⟨wr.heap.size, rfl, h.bel.size, fun _ => Blk.new .., fun h11 => absurd hc (h.f11 (not_erase h11 (by decide))).2⟩
  · exact fun h11 => absurd hc (h.f11 (not_erase h11 (by decide))).2
  · exact fun h10 => ⟨fun hm => (h.f10 (not_erase h10 (by decide))).1 (in_erase hm), (h.f10 (not_erase h10 (by decide))).2⟩
  · exact fun h12 => ⟨fun hm => (h.f12 (not_erase h12 (by decide))).1 (in_erase hm), (h.f12 (not_erase h12 (by decide))).2⟩
theorem KtI.s10 (h : KtI w wr J S rest x21 x23 x18 x24 x25 x26 x8 x7 x9) (_hn : rest.Nodup) (_hc : 10 ∈ rest) (h6i : 6 ∉ rest) (hv : v = x24) : KtI w wr J S (rest.erase 10) x21 x23 x18 x24 x25 x26 x8 v x9 := by
  refine ⟨h.bel, ?_, ?_, ?_, ?_, ?_, ?_, ?_, ?_, ?_, ?_⟩
  · intro h2 h4
    obtain ⟨o, c, e1, e2⟩ := h.f2 (not_erase h2 (by decide)) (in_erase h4)
    exact ⟨o, c, e1, e2⟩
  · exact fun h4 => h.f4 (not_erase h4 (by decide))
  · exact fun h5 => ⟨fun hm => (h.f5 (not_erase h5 (by decide))).1 (in_erase hm), (h.f5 (not_erase h5 (by decide))).2⟩
  · exact fun h6 => ⟨fun hm => (h.f6 (not_erase h6 (by decide))).1 (in_erase hm), (h.f6 (not_erase h6 (by decide))).2⟩
  · exact fun h7 => ⟨fun hm => (h.f7 (not_erase h7 (by decide))).1 (in_erase hm), (h.f7 (not_erase h7 (by decide))).2⟩
  · exact fun h8 => ⟨fun hm => (h.f8 (not_erase h8 (by decide))).1 (in_erase hm), (h.f8 (not_erase h8 (by decide))).2⟩
  · intro h9
    obtain ⟨A, e1, e2, e3, e4⟩ := h.f9 (not_erase h9 (by decide))
    refine ⟨A, e1, e2, fun h11 => (e3 (in_erase h11)), fun h11 => by
      obtain ⟨a, b, e5, e6⟩ := e4 (not_erase h11 (by decide))
      exact ⟨a, b, e5, e6⟩⟩
  · exact fun h11 => ⟨fun hm => (h.f11 (not_erase h11 (by decide))).1 (in_erase hm), fun hm => (h.f11 (not_erase h11 (by decide))).2 (in_erase hm)⟩
  · exact fun _ => ⟨fun hm => h6i (in_erase hm), hv⟩
  · exact fun h12 => ⟨fun hm => (h.f12 (not_erase h12 (by decide))).1 (in_erase hm), (h.f12 (not_erase h12 (by decide))).2⟩
theorem KtI.s11 (h : KtI w wr J S rest x21 x23 x18 x24 x25 x26 x8 x7 x9) (hn : rest.Nodup) (hc : 11 ∈ rest) {A : Nat} {a b : Value} (h7i : 7 ∉ rest) (h9i : 9 ∉ rest) (hA : x8 = .pointer (some ⟨A, 0, none⟩)) (hx : x25 = .agg #[a, b]) : KtI w ((wr.setCell ⟨A, 0, none⟩ a).setCell ⟨A, 1, none⟩ b) J S (rest.erase 11) x21 x23 x18 x24 x25 x26 x8 x7 x9 := by
  obtain ⟨A', e1, hl, hblk, _⟩ := h.f9 h9i
  rw [hA] at e1
  cases e1
  have hB := hblk hc
  refine ⟨(h.bel.setCell hl _).setCell hl _, ?_, ?_, ?_, ?_, ?_, ?_, ?_, ?_, ?_, ?_⟩
  · exact fun _ h4 => absurd (in_erase h4) (h.f5 (h.f7 h7i).1).1
  · exact fun h4 => ((h.f4 (not_erase h4 (by decide))).set hB hl 0 a).set (hB.set 0 a) hl 1 b
  · exact fun h5 => ⟨fun hm => (h.f5 (not_erase h5 (by decide))).1 (in_erase hm), (h.f5 (not_erase h5 (by decide))).2⟩
  · exact fun h6 => ⟨fun hm => (h.f6 (not_erase h6 (by decide))).1 (in_erase hm), (h.f6 (not_erase h6 (by decide))).2⟩
  · exact fun h7 => ⟨fun hm => (h.f7 (not_erase h7 (by decide))).1 (in_erase hm), (h.f7 (not_erase h7 (by decide))).2⟩
  · exact fun h8 => ⟨fun hm => (h.f8 (not_erase h8 (by decide))).1 (in_erase hm), (h.f8 (not_erase h8 (by decide))).2⟩
  · exact fun _ => ⟨A, hA, hl, fun h11 => absurd h11 hn.not_mem_erase, fun _ => ⟨a, b, hx, by have := (hB.set 0 a).set 1 b; simpa using this⟩⟩
  · exact fun _ => ⟨fun hm => h7i (in_erase hm), fun hm => h9i (in_erase hm)⟩
  · exact fun h10 => ⟨fun hm => (h.f10 (not_erase h10 (by decide))).1 (in_erase hm), (h.f10 (not_erase h10 (by decide))).2⟩
  · exact fun h12 => ⟨fun hm => (h.f12 (not_erase h12 (by decide))).1 (in_erase hm), (h.f12 (not_erase h12 (by decide))).2⟩
theorem KtI.s12 (h : KtI w wr J S rest x21 x23 x18 x24 x25 x26 x8 x7 x9) (_hn : rest.Nodup) (_hc : 12 ∈ rest) (h8i : 8 ∉ rest) (hv : v = x26) : KtI w wr J S (rest.erase 12) x21 x23 x18 x24 x25 x26 x8 x7 v := by
  refine ⟨h.bel, ?_, ?_, ?_, ?_, ?_, ?_, ?_, ?_, ?_, ?_⟩
  · intro h2 h4
    obtain ⟨o, c, e1, e2⟩ := h.f2 (not_erase h2 (by decide)) (in_erase h4)
    exact ⟨o, c, e1, e2⟩
  · exact fun h4 => h.f4 (not_erase h4 (by decide))
  · exact fun h5 => ⟨fun hm => (h.f5 (not_erase h5 (by decide))).1 (in_erase hm), (h.f5 (not_erase h5 (by decide))).2⟩
  · exact fun h6 => ⟨fun hm => (h.f6 (not_erase h6 (by decide))).1 (in_erase hm), (h.f6 (not_erase h6 (by decide))).2⟩
  · exact fun h7 => ⟨fun hm => (h.f7 (not_erase h7 (by decide))).1 (in_erase hm), (h.f7 (not_erase h7 (by decide))).2⟩
  · exact fun h8 => ⟨fun hm => (h.f8 (not_erase h8 (by decide))).1 (in_erase hm), (h.f8 (not_erase h8 (by decide))).2⟩
  · intro h9
    obtain ⟨A, e1, e2, e3, e4⟩ := h.f9 (not_erase h9 (by decide))
    refine ⟨A, e1, e2, fun h11 => (e3 (in_erase h11)), fun h11 => by
      obtain ⟨a, b, e5, e6⟩ := e4 (not_erase h11 (by decide))
      exact ⟨a, b, e5, e6⟩⟩
  · exact fun h11 => ⟨fun hm => (h.f11 (not_erase h11 (by decide))).1 (in_erase hm), fun hm => (h.f11 (not_erase h11 (by decide))).2 (in_erase hm)⟩
  · exact fun h10 => ⟨fun hm => (h.f10 (not_erase h10 (by decide))).1 (in_erase hm), (h.f10 (not_erase h10 (by decide))).2⟩
  · exact fun _ => ⟨fun hm => h8i (in_erase hm), hv⟩
end
end Go.Proofs.Ythgkfdhkmkbioaa
