/- Chapter 40: chain.Check. -/
import Derived.Test.YtckbooccgdddbaaWf40
namespace Go.Proofs.Ytckbooccgdddbaa
open Go.RowKit Go.Shelf
attribute [local go_sem] Oper.semAt_some

set_option maxHeartbeats 1000000 in
theorem inOrder_any (v : Value) (w : World) (hv : ∃ o n c, v = .slice o n c) : Calls Try.prog 27 #[v] w fun e w' => e = .returned (.func (.func 34) #[] #[.pointer (some ⟨w.heap.size, 0, none⟩)]) ∧ w' = w.alloc (.cells #[v] 23) := by
  obtain ⟨o, n, c, rfl⟩ := hv
  go_enter Try.func27, Try.ntmps27
  go_wp2
  go_ret
  exact ⟨rfl, rfl⟩

/-- What inOrder hands back. -/
theorem inOrder_stops (n q n₀ : Nat) (o : Option Addr) (cap : Nat) (l : List Rd) (hl : l.length ≤ 9223372036854775807) (w : World) (hlow : ∀ b off, o = some ⟨b, off, none⟩ → 0 < l.length → b < n₀) (hq : Blk w q 23 #[.slice o l.length cap]) (hr : Rds w o l) :
    SeqStopsK Fence.wide n Try.prog 34 #[.pointer (some ⟨q, 0, none⟩)] encs (Kpt n₀ q) (Sdone l) (Sstop l) l.length w :=
  fun lp J Jx W hW hJ hJx hY h0 => inOrder1_in n lp q n₀ o cap l J Jx hl hlow hY W hJ hJx (hq.later hW) (hr.later hW) h0

/-! ### Links, from the left -/
def stL (s : Nat) (ps : List (Int × Rd)) : Nat := ps.foldl (fun _ p => p.2.k) s
def lkOk : Nat → List (Int × Rd) → Prop
  | _, [] => True
  | s, p :: ps => p.2.k = link s p.2 ∧ lkOk p.2.k ps
theorem stL_snoc (s : Nat) (ps : List (Int × Rd)) (p : Int × Rd) : stL s (ps ++ [p]) = p.2.k := by simp [stL]
theorem lkOk_snoc (p : Int × Rd) : ∀ (s : Nat) (ps : List (Int × Rd)), lkOk s (ps ++ [p]) ↔ (lkOk s ps ∧ p.2.k = link (stL s ps) p.2)
  | s, [] => by
    show (p.2.k = link s p.2 ∧ True) ↔ (True ∧ p.2.k = link s p.2)
    exact And.comm
  | s, x :: ps => by
    show (x.2.k = link s x.2 ∧ lkOk x.2.k (ps ++ [p])) ↔ ((x.2.k = link s x.2 ∧ lkOk x.2.k ps) ∧ p.2.k = link (stL x.2.k ps) p.2)
    rw [lkOk_snoc p x.2.k ps, and_assoc]
theorem stL_lt {s : Nat} (hs : s < 18446744073709551616) (ps : List (Int × Rd)) : stL s ps < 18446744073709551616 := by
  rcases List.eq_nil_or_concat ps with rfl | ⟨q, p, rfl⟩
  · exact hs
  · rw [List.concat_eq_append, stL_snoc]; exact p.2.hk
theorem stL_enum (s : Nat) {l : List Rd} : ∀ {k : Nat}, k ≤ l.length → stL s (enum l k) = stAt s l k
  | 0, _ => rfl
  | k + 1, hk => by rw [enum_succ, stL_snoc, stAt_succ s (by omega)]
theorem lkOk_enum {s : Nat} {l : List Rd} : ∀ {k : Nat}, k ≤ l.length → lkOk s (enum l k) → ∀ i, i < k → (getR l i).k = link (stAt s l i) (getR l i)
  | 0, _, _, i, hi => absurd hi (by omega)
  | k + 1, hk, h, i, hi => by
    rw [enum_succ, lkOk_snoc, stL_enum s (by omega)] at h
    rcases Nat.lt_or_eq_of_le (Nat.le_of_lt_succ hi) with h1 | rfl
    · exact lkOk_enum (by omega) h.1 i h1
    · exact h.2

/-- The cells of Check: its result, how many are good, the state. -/
structure ChkSt (w W : World) (r g : Int) (s : Nat) : Prop where
  br : Boxed W w.heap.size 3 (.int .i64 r)
  bg : Boxed W (w.heap.size + 1) 3 (.int .i64 g)
  bs : Boxed W (w.heap.size + 1 + 1) 22 (.int .u64 (s : Nat))
  bel : Below w.heap.size w W
  sz : w.heap.size + 1 + 1 + 1 < W.heap.size

theorem boxed_turn {W W' : World} {row : Option Nat} {B : Nat} {t : TypeId} {v : Value} (h : Boxed W B t v) (hg : W.grownBy W' row) (hr : ∀ r, row = some r → ∃ o : Obj, W.heap[r]? = some o ∧ o.isCells = false) : Boxed W' B t v :=
  h.kept hg (fun e => by
    obtain ⟨o, ho, hc⟩ := hr B e.symm
    rw [show W.heap[B]? = _ from h] at ho
    cases ho
    cases hc)
theorem boxed_later {W W' : World} {B : Nat} {t : TypeId} {v : Value} (h : Boxed W B t v) (hb : Below W.heap.size W W') : Boxed W' B t v := (hb.block B h.lt).trans h

theorem ChkSt.turn {w W W' : World} {r g : Int} {s B : Nat} (h : ChkSt w W r g s) {row : Option Nat} (hB : w.heap.size ≤ B) (hg : W.grownBy W' row) (hr : ∀ r, row = some r → B ≤ r ∧ ∃ o : Obj, W.heap[r]? = some o ∧ o.isCells = false) : ChkSt w W' r g s :=
  ⟨boxed_turn h.br hg fun r e => (hr r e).2, boxed_turn h.bg hg fun r e => (hr r e).2, boxed_turn h.bs hg fun r e => (hr r e).2, h.bel.grown hg (Nat.le_trans (Nat.le_refl _) h.bel.size) (fun k e => Nat.le_trans hB (hr k e).1), Nat.lt_of_lt_of_le h.sz hg.size⟩
theorem ChkSt.later {w W W' : World} {r g : Int} {s : Nat} (h : ChkSt w W r g s) (hb : Below W.heap.size W W') : ChkSt w W' r g s :=
  ⟨boxed_later h.br hb, boxed_later h.bg hb, boxed_later h.bs hb, below_step h.bel hb, Nat.lt_of_lt_of_le h.sz hb.size⟩
theorem boxed_other {W : World} {B : Nat} {t : TypeId} {v : Value} (h : Boxed W B t v) {p : Addr} (hp : B ≠ p.block) (u : Value) : Boxed (W.setCell p u) B t v := (Below.heap_setCell W p u B hp).trans h
theorem ChkSt.setR {w W : World} {r g : Int} {s : Nat} (h : ChkSt w W r g s) (r' : Int) : ChkSt w (W.setCell ⟨w.heap.size, 0, none⟩ (.int .i64 r')) r' g s :=
  ⟨h.br.set _, boxed_other h.bg (by simp) _, boxed_other h.bs (by simp; omega) _, h.bel.setCell (Nat.le_refl _) _, by rw [World.size_setCell]; exact h.sz⟩
theorem ChkSt.setG {w W : World} {r g : Int} {s : Nat} (h : ChkSt w W r g s) (g' : Int) : ChkSt w (W.setCell ⟨w.heap.size + 1, 0, none⟩ (.int .i64 g')) r g' s :=
  ⟨boxed_other h.br (by simp) _, h.bg.set _, boxed_other h.bs (by simp) _, h.bel.setCell (by simp) _, by rw [World.size_setCell]; exact h.sz⟩
theorem ChkSt.setS {w W : World} {r g : Int} {s : Nat} (h : ChkSt w W r g s) (s' : Nat) : ChkSt w (W.setCell ⟨w.heap.size + 1 + 1, 0, none⟩ (.int .u64 (s' : Nat))) r g s' :=
  ⟨boxed_other h.br (by simp; omega) _, boxed_other h.bg (by simp) _, h.bs.set _, h.bel.setCell (by simp; omega) _, by rw [World.size_setCell]; exact h.sz⟩

theorem keeps_below {W W' : World} (hb : Below W.heap.size W W') : KeepsOthers W W' := ⟨hb.size, fun k _ hk _ => (hb.block k (Array.getElem?_eq_some_iff.1 hk).1).trans hk⟩
theorem kpt_below {n₀ q : Nat} {W W' : World} (hn : n₀ ≤ W.heap.size) (hq : q < W.heap.size) (hb : Below W.heap.size W W') : Kpt n₀ q W W' := ⟨hb.mono hn, hb.block q hq⟩
theorem kpt_set {n₀ q : Nat} {W : World} {p : Addr} (hp : n₀ ≤ p.block) (hq : q ≠ p.block) (u : Value) : Kpt n₀ q W (W.setCell p u) := ⟨(Below.refl _ _).setCell hp _, Below.heap_setCell _ _ _ _ hq⟩

set_option maxRecDepth 100000 in
set_option maxHeartbeats 8000000 in
theorem Check_any (seed : Nat) (o : Option Addr) (cap : Nat) (l : List Rd) (w : World) (hs : seed < 18446744073709551616) (hr : Rds w o l) (hl : l.length ≤ 9223372036854775807) : Calls Try.prog 19 #[.int .u64 (seed : Nat), .slice o l.length cap] w (Ret (.int .i64 (chk seed l)) w) := by
  have HRD := Lib.hid hr
  have HLOW := Lib.hid hr.lt
  clear hr
  obtain ⟨n, hn⟩ : ∃ n : Nat, 6 ≤ n := ⟨8, by omega⟩
  refine (callsIn_wide (n := n)).1 ?_
  refine callsIn_of_wp_marks Try.func19 rfl trivial ?_ rfl
  simp only [Try.ntmps19, List.size_toArray, List.length_cons, List.length_nil, Nat.reduceAdd, Nat.reduceSub, Array.replicate_succ, Array.replicate_zero, List.push_toArray, List.append_toArray, List.nil_append, List.cons_append]
  gi_wp2_with fail
  refine inCall (inOrder_any _ _ ⟨_, _, _, rfl⟩) ?_
  rintro e w' ⟨rfl, rfl⟩
  have HST0 : Hid (ChkSt w ((((w.alloc (.cells #[.int .i64 0] 3)).alloc (.cells #[.int .i64 0] 3)).alloc (.cells #[.int .u64 (seed : Nat)] 22)).alloc (.cells #[.slice o l.length cap] 23)) 0 0 seed) := by
    refine Lib.hid ⟨((Boxed.new w _ _).alloc _).alloc _ |>.alloc _, ?_, ?_, below_alloc (below_alloc (below_alloc (below_alloc (Below.refl _ _) _) _) _) _, by simp⟩
    · have := ((Boxed.new (w.alloc (.cells #[.int .i64 0] 3)) 3 (.int .i64 0)).alloc (.cells #[.int .u64 (seed : Nat)] 22)).alloc (.cells #[.slice o l.length cap] 23)
      rwa [World.size_alloc] at this
    · have := (Boxed.new ((w.alloc (.cells #[.int .i64 0] 3)).alloc (.cells #[.int .i64 0] 3)) 22 (.int .u64 (seed : Nat))).alloc (.cells #[.slice o l.length cap] 23)
      rwa [World.size_alloc, World.size_alloc] at this
  have HBX : Hid (Blk ((((w.alloc (.cells #[.int .i64 0] 3)).alloc (.cells #[.int .i64 0] 3)).alloc (.cells #[.int .u64 (seed : Nat)] 22)).alloc (.cells #[.slice o l.length cap] 23)) (w.heap.size + 1 + 1 + 1) 23 #[.slice o l.length cap]) := by
    have := Blk.new (((w.alloc (.cells #[.int .i64 0] 3)).alloc (.cells #[.int .i64 0] 3)).alloc (.cells #[.int .u64 (seed : Nat)] 22)) 23 #[.slice o l.length cap]
    rw [World.size_alloc, World.size_alloc, World.size_alloc] at this
    exact Lib.hid this
  gi_wp2_with fail
  generalize hW0 : (((w.alloc (.cells #[.int .i64 0] 3)).alloc (.cells #[.int .i64 0] 3)).alloc (.cells #[.int .u64 (seed : Nat)] 22)).alloc (.cells #[.slice o l.length cap] 23) = W0 at HST0 HBX ⊢
  have hsz : W0.heap.size = w.heap.size + 4 := by rw [← hW0]; simp
  have HSZ := Lib.hid hsz
  clear hW0 hsz

  refine wpIn_rangeFunc_ownH (F := Fence.wide) rfl (by omega) (gf := 34) (lb := #[.pointer (some ⟨w.heap.size + 1 + 1 + 1, 0, none⟩)]) rfl trivial (enters_of Try.func34 (by kernel_rfl) rfl)
    (inOrder_stops (n - 1) (w.heap.size + 1 + 1 + 1) w.heap.size o cap l hl W0 HLOW.out HBX.out (HRD.out.later HST0.out.bel)) (fun h k => h.trans k)
    (fun W lb ob ob' h1 h2 _ _ => ⟨(Below.refl _ _).grown (grownBy_putObj' W lb ob') (by have := (Array.getElem?_eq_some_iff.1 h2).1; have := HSZ.out; omega) (fun k e => by cases e; have := HSZ.out; omega), World.putObj_heap_other (by have := HSZ.out; omega)⟩)
    (Below.refl _ _) (fun _ => rfl)
    (fun pre W => ChkSt w W 0 (pre.length : Nat) (stL seed pre) ∧ lkOk seed pre)
    (fun c pre W => c = .ret ∧ ∃ (pre' : List (Int × Rd)) (x : Int × Rd) (g : Int) (s : Nat), pre = pre' ++ [x] ∧ lkOk seed pre' ∧ ¬ x.2.k = link (stL seed pre') x.2 ∧ ChkSt w W (pre'.length : Nat) g s)
    (fun s A B row hs hg hr => ⟨hs.1.turn (by have := HSZ.out; omega) hg hr, hs.2⟩)
    (fun c s A B row hs hg hr => by obtain ⟨h1, pre', x, g, t, h2, h3, h4, h5⟩ := hs; exact ⟨h1, pre', x, g, t, h2, h3, h4, h5.turn (by have := HSZ.out; omega) hg hr⟩)
    ⟨HST0.out, trivial⟩
    (fun x a' W => ∃ Bx, w.heap.size + 1 + 1 + 1 < Bx ∧ RdB W Bx x.2 ∧ a' = { tmps := #[.int .u64 (seed : Nat), .slice o l.length cap, undef, undef, .pointer (some ⟨w.heap.size, 0, none⟩), .pointer (some ⟨w.heap.size + 1, 0, none⟩), .pointer (some ⟨w.heap.size + 1 + 1, 0, none⟩), undef, .pointer (some ⟨Bx, 0, none⟩), .int .u64 (seed : Nat), .slice o l.length cap, .func (.func 34) #[] #[.pointer (some ⟨w.heap.size + 1 + 1 + 1, 0, none⟩)], .int .i64 x.1, rdV x.2, undef, undef, undef, undef, undef, undef, undef, undef, undef, undef, undef, undef, undef, undef, undef, undef], defers := [] })
    (fun x a' _ A B row hs hg hr => by
      obtain ⟨Bx, h1, h2, h3⟩ := hs
      refine ⟨Bx, h1, (hg.block Bx (Blk.lt h2) (fun e => ?_)).trans h2, h3⟩
      obtain ⟨_, ob, ho, hc⟩ := hr Bx e.symm
      rw [show A.heap[Bx]? = _ from h2] at ho
      cases ho
      cases hc)
    ?assign ?body ?done ?stop
  case assign =>
    rintro lp pre x W K ⟨hst, hlk⟩ hK
    have HK := Lib.hid hK
    have HS := Lib.hid hst
    have HQ := Lib.hid hst.sz
    clear hK hst
    gi_wp2
    exact HK.out _ _ ((KeepsOthers.alloc _ _).from _) ⟨(Below.refl _ W).alloc HS.out.bel.size _, Below.heap_alloc _ _ _ HQ.out⟩ ⟨HS.out.later (below_alloc (Below.refl _ _) _), hlk⟩ ⟨W.heap.size, HQ.out, RdB.new W x.2, rfl⟩
  case body =>
    rintro lp pre ⟨i, x⟩ a' W _ _ ⟨hst, hlk⟩ ⟨Bx, hBx, hxb, rfl⟩ hpl
    dsimp only at hxb
    have HS := Lib.hid hst
    have HXB := Lib.hid hxb
    have HLK := Lib.hid hlk
    have hsl := stL_lt hs pre
    have HSN := Lib.hid (lkOk_snoc (i, x) seed pre)
    have HST := Lib.hid (stL_snoc seed pre (i, x))
    obtain ⟨z, hz⟩ : ∃ z, stL seed pre = z := ⟨_, rfl⟩
    rw [hz] at HS hsl HSN
    have HZ := Lib.hid hz
    have HL := Lib.hid (fun w' => Link_any z x hsl w')
    obtain ⟨L, hL⟩ : ∃ L, link z x = L := ⟨_, rfl⟩
    dsimp only at HSN HST
    rw [hL] at HL HSN
    have HLL := Lib.hid hL
    have e1 : IntKind.i64.wrap ((pre.length : Int) + 1) = (pre.length : Int) + 1 := IntWalk.i64_in _ (by omega)
    clear hst hxb hlk hz hL
    by_cases hkL : x.k = L
    · subst hkL
      gi_wp2
      refine wpIn_region_B 6 (fun w'' => Below W.heap.size W w'') mixed (by kernel_rfl) (by kernel_rfl) ?_ (below_closed W) (Below.refl _ _).drew ?_
      · rintro ⟨_, _, h⟩
        exact h
      simp only [List.take_succ_cons, List.take_zero, List.drop_succ_cons, List.drop_zero]
      intro KR hR
      have HR := Lib.hid hR
      clear hR
      have HCC := Lib.hid (show ∀ w'', Below W.heap.size W w'' → w''.cell? ⟨Bx, 0, none⟩ = some (.int .i64 x.s) ∧ w''.cell? ⟨Bx, 1, none⟩ = some (.int .i64 x.n) ∧ w''.cell? ⟨Bx, 2, none⟩ = some (.int .i64 x.m) ∧ w''.cell? ⟨Bx, 3, none⟩ = some (.int .i64 x.r) ∧ w''.cell? ⟨Bx, 4, none⟩ = some (.int .u64 x.k) ∧ w''.cell? ⟨w.heap.size + 1 + 1, 0, none⟩ = some (.int .u64 (z : Nat)) from fun w'' hw => ⟨(HXB.out.later hw).cells.1, (HXB.out.later hw).cells.2.1, (HXB.out.later hw).cells.2.2.1, (HXB.out.later hw).cells.2.2.2.1, (HXB.out.later hw).cells.2.2.2.2, (HS.out.later hw).bs.cell⟩)
      repeat (first
        | ((with_reducible refine wpB_move ?_ ?_); exact rfl; simp only [Act.put, List.setIfInBounds_toArray, List.set_cons_zero, List.set_cons_succ])
        | ((with_reducible refine wpB_skip ?_ ?_); exact rfl; simp only [Act.put, List.setIfInBounds_toArray, List.set_cons_zero, List.set_cons_succ])
        | (apply wpB_call 16 #[.int .u64 (z : Nat), rdV x] rfl (v := .int .u64 (x.k : Nat))
           · (intro w'; go_simp)
           · exact fun w' hw' => HL.out w'
           simp only [Act.put, List.setIfInBounds_toArray, List.set_cons_zero, List.set_cons_succ])
        | (apply wpB_val rfl
           · (intro w' hw'; obtain ⟨c0, c1, c2, c3, c4, c5⟩ := HCC.out w' hw'; go_simp; with_reducible rfl)
           simp only [Act.put, List.setIfInBounds_toArray, List.set_cons_zero, List.set_cons_succ]))
      refine wpB_nil (HR.out _ (fun w2 hw2 => ?_))
      clear HR HCC
      have HS2 := Lib.hid (HS.out.later hw2)
      have HXB2 := Lib.hid (HXB.out.later hw2)
      have HKO := Lib.hid (keeps_below hw2)
      have HKP := Lib.hid (kpt_below (n₀ := w.heap.size) HS.out.bel.size HS.out.sz hw2)
      clear hw2
      refine wpList_nil ?_
      have c4 := HXB2.out.cells.2.2.2.2
      have cg := HS2.out.bg.cell
      have cs := HS2.out.bs.cell
      have cr := HS2.out.br.cell
      have fg := HS2.out.bg.frozen
      have fs := HS2.out.bs.frozen
      have fr := HS2.out.br.frozen
      gi_wp2
      refine ⟨((HKO.out.trans (KeepsOthers.setCell _ _ _)).trans (KeepsOthers.setCell _ _ _)).from _, (HKP.out.trans (kpt_set (by dsimp only; omega) (by dsimp only; omega) _)).trans (kpt_set (by dsimp only; omega) (by dsimp only; omega) _), ?_, ?_⟩
      · rw [HST.out]
        have := (HS2.out.setS x.k).setG ((pre.length : Int) + 1)
        rw [show (((pre ++ [(i, x)]).length : Nat) : Int) = (pre.length : Int) + 1 by simp]
        exact this
      · exact HSN.out.2 ⟨HLK.out, by trivial⟩
    · have hkI : ¬ (x.k : Int) = (L : Int) := by omega
      have hkN : ¬ x.k = link (stL seed pre) x := by rw [HZ.out, HLL.out]; exact hkL
      have HKN := Lib.hid hkN
      clear hkN
      gi_wp2
      refine wpIn_region_B 6 (fun w'' => Below W.heap.size W w'') mixed (by kernel_rfl) (by kernel_rfl) ?_ (below_closed W) (Below.refl _ _).drew ?_
      · rintro ⟨_, _, h⟩
        exact h
      simp only [List.take_succ_cons, List.take_zero, List.drop_succ_cons, List.drop_zero]
      intro KR hR
      have HR := Lib.hid hR
      clear hR
      have HCC := Lib.hid (show ∀ w'', Below W.heap.size W w'' → w''.cell? ⟨Bx, 0, none⟩ = some (.int .i64 x.s) ∧ w''.cell? ⟨Bx, 1, none⟩ = some (.int .i64 x.n) ∧ w''.cell? ⟨Bx, 2, none⟩ = some (.int .i64 x.m) ∧ w''.cell? ⟨Bx, 3, none⟩ = some (.int .i64 x.r) ∧ w''.cell? ⟨Bx, 4, none⟩ = some (.int .u64 x.k) ∧ w''.cell? ⟨w.heap.size + 1 + 1, 0, none⟩ = some (.int .u64 (z : Nat)) from fun w'' hw => ⟨(HXB.out.later hw).cells.1, (HXB.out.later hw).cells.2.1, (HXB.out.later hw).cells.2.2.1, (HXB.out.later hw).cells.2.2.2.1, (HXB.out.later hw).cells.2.2.2.2, (HS.out.later hw).bs.cell⟩)
      repeat (first
        | ((with_reducible refine wpB_move ?_ ?_); exact rfl; simp only [Act.put, List.setIfInBounds_toArray, List.set_cons_zero, List.set_cons_succ])
        | ((with_reducible refine wpB_skip ?_ ?_); exact rfl; simp only [Act.put, List.setIfInBounds_toArray, List.set_cons_zero, List.set_cons_succ])
        | (apply wpB_call 16 #[.int .u64 (z : Nat), rdV x] rfl (v := .int .u64 (L : Nat))
           · (intro w'; go_simp)
           · exact fun w' hw' => HL.out w'
           simp only [Act.put, List.setIfInBounds_toArray, List.set_cons_zero, List.set_cons_succ])
        | (apply wpB_val rfl
           · (intro w' hw'; obtain ⟨c0, c1, c2, c3, c4, c5⟩ := HCC.out w' hw'; go_simp; with_reducible rfl)
           simp only [Act.put, List.setIfInBounds_toArray, List.set_cons_zero, List.set_cons_succ]))
      refine wpB_nil (HR.out _ (fun w2 hw2 => ?_))
      clear HR HCC
      have HS2 := Lib.hid (HS.out.later hw2)
      have HXB2 := Lib.hid (HXB.out.later hw2)
      have HKO := Lib.hid (keeps_below hw2)
      have HKP := Lib.hid (kpt_below (n₀ := w.heap.size) HS.out.bel.size HS.out.sz hw2)
      clear hw2
      refine wpList_nil ?_
      have c4 := HXB2.out.cells.2.2.2.2
      have cg := HS2.out.bg.cell
      have cs := HS2.out.bs.cell
      have cr := HS2.out.br.cell
      have fg := HS2.out.bg.frozen
      have fs := HS2.out.bs.frozen
      have fr := HS2.out.br.frozen
      gi_wp2
      refine ⟨(HKO.out.trans (KeepsOthers.setCell _ _ _)).from _, rfl, pre, (i, x), _, _, rfl, HLK.out, HKN.out, HS2.out.setR (pre.length : Int)⟩
  case done =>
    rintro D xs W hD ⟨k, hk, rfl, hok, hend⟩ ⟨hst, hlk⟩ hKD
    rw [enum_length] at hst
    have HS := Lib.hid hst
    have HRI : Hid (∀ i, i < k → rightAt seed l i = true) := Lib.hid (fun i hi => by rw [rightAt_get (by omega), hok i hi]; simp [lkOk_enum hk hlk i hi])
    have cg := hst.bg.cell
    have cr := hst.br.cell
    have fr := hst.br.frozen
    have HKD := Lib.hid hKD
    have HEND := Lib.hid hend
    clear hst hlk hKD hok hend
    by_cases hkl : k < l.length
    · have HC := Lib.hid (isChk_eq (seed := seed) (l := l) (v := (k : Int)) (.inr ⟨k, hkl, rfl, by rw [rightAt_get hkl]; rcases HEND.out with h | h; omega; rw [h]; rfl, HRI.out⟩))
      gi_wp2
      have HS2 := Lib.hid (HS.out.setR (k : Int))
      have hK' := (KeepsOthers.setCell W ⟨w.heap.size, 0, none⟩ (.int .i64 (k : Int))).same D _ HKD.out rfl
      refine ⟨by simp, .inl ⟨_, _, rfl, run_takeDeferred hK', ?_⟩⟩
      have h3 := HS2.out.turn (B := W0.heap.size) (by have := HSZ.out; omega) (grownBy_putObj' _ D (.deferred none)) (fun r e => by cases e; exact ⟨hD, _, hK', rfl⟩)
      have c5 := h3.br.cell
      refine ⟨.int .i64 (k : Int), ?_, by rw [HC.out], h3.bel⟩
      simp [results, Try.results19, go_sem, c5]
    · obtain rfl : k = l.length := by omega
      have HC := Lib.hid (isChk_eq (seed := seed) (l := l) (v := -1) (.inl ⟨rfl, HRI.out⟩))
      gi_wp2
      have HS2 := Lib.hid (HS.out.setR (-1))
      have hK' := (KeepsOthers.setCell W ⟨w.heap.size, 0, none⟩ (.int .i64 (-1))).same D _ HKD.out rfl
      refine ⟨by simp, .inl ⟨_, _, rfl, run_takeDeferred hK', ?_⟩⟩
      have h3 := HS2.out.turn (B := W0.heap.size) (by have := HSZ.out; omega) (grownBy_putObj' _ D (.deferred none)) (fun r e => by cases e; exact ⟨hD, _, hK', rfl⟩)
      have c5 := h3.br.cell
      refine ⟨.int .i64 (-1), ?_, by rw [HC.out], h3.bel⟩
      simp [results, Try.results19, go_sem, c5]
  case stop =>
    rintro D c pre W hD ⟨k, hkl, rfl, hok⟩ ⟨rfl, pre', x, g, t, h2, h3, h4, h5⟩ hKD
    rw [enum_succ] at h2
    obtain ⟨h6, h7⟩ := List.append_inj' h2 rfl
    subst h6
    injection h7 with h7
    subst h7
    rw [enum_length] at h5
    dsimp only at h4
    rw [stL_enum seed (by omega)] at h4
    have HC := Lib.hid (isChk_eq (seed := seed) (l := l) (v := (k : Int)) (.inr ⟨k, hkl, rfl, by rw [rightAt_get hkl]; simp [h4], fun i hi => by rw [rightAt_get (by omega), hok i (by omega)]; simp [lkOk_enum (by omega) h3 i hi]⟩))
    have HS := Lib.hid h5
    clear h2 h3 h4 h5 hok
    gi_wp2
    refine ⟨by simp, .inl ⟨_, _, rfl, run_takeDeferred hKD, ?_⟩⟩
    have h3 := HS.out.turn (B := W0.heap.size) (by have := HSZ.out; omega) (grownBy_putObj' _ D (.deferred none)) (fun r e => by cases e; exact ⟨hD, _, hKD, rfl⟩)
    have c5 := h3.br.cell
    refine ⟨.int .i64 (k : Int), ?_, by rw [HC.out], h3.bel⟩
    simp [results, Try.results19, go_sem, c5]

end Go.Proofs.Ytckbooccgdddbaa
