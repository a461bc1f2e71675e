/- append(append(a, b...), x), in whatever order; jobs with a further one; mapped jobs and numbers. -/
import Derived.Test.YthgkfdhkmkbioaaRs21
import Derived.Deep.Onto
import Derived.Laws.OwnMore
namespace Go.Proofs.Ythgkfdhkmkbioaa
open Go.RowKit Go.Shelf
attribute [local go_sem] Oper.semAt_some

/-- Cells behind a slice; a nil slice has none. -/
def SrcV (w : World) (o : Option Addr) (n c size : Nat) (news : List Value) : Prop := news.length = n * size ∧ (o = none → n = 0 ∧ c = 0) ∧ ∀ b off j u, o = some ⟨b, off, none⟩ → news[j]? = some u → w.cell? ⟨b, off + j, none⟩ = some u
theorem SrcV.later {w w' : World} {o : Option Addr} {n c size : Nat} {news : List Value} (h : SrcV w o n c size news) (hb : Below w.heap.size w w') : SrcV w' o n c size news := ⟨h.1, h.2.1, fun b off j u h1 h2 => cell_kept hb (h.2.2 b off j u h1 h2)⟩
theorem run_appV {t e : TypeId} {size bytes : Nat} (hI : ElemI Try.prog t e size bytes) (hb : bytes ≤ 100000) {w : World} {base : Nat} {v : Value} {n : Nat} {xs : List Value} (hown : w.ownsRow base e size v n xs) (hbase : base ≤ w.heap.size) {o : Option Addr} {k c : Nat} {news : List Value} (hs : SrcV w o k c size news) (hspot : ∀ a, o = some a → a.spot = none) (h1 : ∀ u ∈ news, u.oneCell' = true) (hn : n + k ≤ 1000000) (ty : TypeId) :
    ∃ v' w', (Builtin.append_ #[t, t] ty #[v, .slice o k c]).run Try.prog w = .ok v' w' ∧ w'.ownsRow base e size v' (n + k) (xs ++ news) ∧ w.grownBy w' v.ownBlock ∧ (v'.ownBlock = v.ownBlock ∨ v'.ownBlock = some w.heap.size) := by
  obtain ⟨i, z, hi, hz, h2, h3, h4⟩ := hI.info
  cases o with
  | none =>
    obtain ⟨rfl, rfl⟩ := hs.2.1 rfl
    obtain rfl : news = [] := List.eq_nil_of_length_eq_zero (by rw [hs.1, Nat.zero_mul])
    exact ⟨v, w, run_append_owned_none w base t ty e i size hI.under hi v n xs hown, by rw [List.append_nil]; exact hown, ⟨rfl, rfl, rfl, Nat.le_refl _, fun _ _ _ => rfl⟩, .inl rfl⟩
  | some a =>
    obtain ⟨b, off, sp⟩ := a
    obtain rfl : sp = none := hspot _ rfl
    have hm := Nat.mul_le_mul hn hb
    obtain ⟨v', w', hr, ho, hg, _, hat⟩ := run_append_own_at (P := Try.prog) w base t ty e i z size bytes hI.under hi hz h2 h3 h4 hI.pos v n xs hown ⟨b, off, none⟩ k c news hs.1 (fun j u hj => by rw [Addr.add_lit]; exact hs.2.2 b off j u rfl hj) h1 (by simp only [maxLen]; omega) (by omega) hbase
    exact ⟨v', w', hr, ho, hg, hat⟩
theorem jobs_src {w : World} {o : Option Addr} {J : List Jb} {c : Nat} (h : JobsM w o J) (hc : o = none → c = 0) : SrcV w o J.length c 5 (flatJ J) := by
  refine ⟨flatJ_len J, fun ho => ⟨?_, hc ho⟩, fun b off j u ho hj => ?_⟩
  · cases hJ : J.length with
    | zero => rfl
    | succ k =>
      obtain ⟨b, off, h1, _⟩ := h 0 (by omega)
      rw [ho] at h1
      cases h1
  · have hjl : j < J.length * 5 := by have := (List.getElem?_eq_some_iff.1 hj).1; rwa [flatJ_len] at this
    have hi : j / 5 < J.length := by omega
    obtain ⟨b', off', h1, c0, c1, c2, c3, c4⟩ := h (j / 5) hi
    rw [ho] at h1
    cases h1
    have hg := flatJ_get hi
    have hd : j = j / 5 * 5 + j % 5 := by omega
    have hm : j % 5 < 5 := Nat.mod_lt _ (by decide)
    obtain ⟨q, hq⟩ : ∃ q, j / 5 = q := ⟨_, rfl⟩
    obtain ⟨r, hr⟩ : ∃ r, j % 5 = r := ⟨_, rfl⟩
    rw [hq] at hg hd c0 c1 c2 c3 c4
    rw [hr] at hd hm
    subst hd
    match r, hm with
    | 0, _ => rw [Nat.add_zero] at hj ⊢; rw [hg.1] at hj; cases hj; exact c0
    | 1, _ => rw [hg.2.1] at hj; cases hj; exact c1
    | 2, _ => rw [hg.2.2.1] at hj; cases hj; exact c2
    | 3, _ => rw [hg.2.2.2.1] at hj; cases hj; exact c3
    | 4, _ => rw [hg.2.2.2.2] at hj; cases hj; exact c4
theorem ints_src {w : World} {o : Option Addr} {l : List Int} {c : Nat} (h : Ints w o l) (hc : o = none → c = 0) : SrcV w o l.length c 1 (intsV l) := by
  refine ⟨by simp [intsV], fun ho => ⟨?_, hc ho⟩, fun b off j u ho hj => ?_⟩
  · cases hJ : l.length with
    | zero => rfl
    | succ k =>
      obtain ⟨b, off, h1, _⟩ := h 0 (by omega)
      rw [ho] at h1
      cases h1
  · have hjl : j < l.length := by have := (List.getElem?_eq_some_iff.1 hj).1; simpa [intsV] using this
    obtain ⟨b', off', h1, c0⟩ := h j hjl
    rw [ho] at h1
    cases h1
    rw [intsV_get hjl] at hj
    cases hj
    exact c0
theorem exec_append {P : Program} {V : Act} {o : Oper} {w w' : World} {v : Value} {t : TypeId} (s x : Operand) (hop : o.op = .call { callee := .builtin .append, args := #[s, x], argTypes := #[t, t] }) (hr : (Builtin.append_ #[t, t] o.type #[V.eval s, V.eval x]).run P w = .ok v w') : (execOp V.eval o).run P w = .ok (.value v) w' := by
  unfold execOp
  simp only [hop, resolve, invoke, builtin, Sem.run_bind, Sem.run_pure, Result.andThen_ok, List.map_toArray, List.map_cons, List.map_nil, hr]
/-- While append(append(v0, b...), x) is carried out: p: the first append, q: the one-element slice. -/
structure AppR (B : Nat) (w wr : World) (e : TypeId) (size : Nat) (rest : List Nat) (p q : Nat) (v0 : Value) (n0 : Nat) (xs0 : List Value) (n1 : Nat) (xs1 : List Value) (cs : Array Value) (x y : Value) : Prop where
  bel : Below B w wr
  sz : w.heap.size ≤ wr.heap.size
  a0 : p ∈ rest → wr.ownsRow B e size v0 n0 xs0
  a1 : p ∉ rest → wr.ownsRow B e size x n1 xs1
  b : q ∉ rest → ∃ X, y = .slice (some ⟨X, 0, none⟩) 1 1 ∧ Blk wr X e cs ∧ (p ∈ rest → v0.ownBlock ≠ some X) ∧ (p ∉ rest → x.ownBlock ≠ some X)
section
variable {B : Nat} {w wr w' : World} {e : TypeId} {size : Nat} {rest : List Nat} {p q : Nat} {v0 : Value} {n0 : Nat} {xs0 : List Value} {n1 : Nat} {xs1 : List Value} {cs : Array Value} {x y : Value}
theorem AppR.start (_h : w.ownsRow B e size v0 n0 xs0) (hp : p ∈ rest) (hq : q ∈ rest) (hb : Below B w wr) (hs : w.heap.size ≤ wr.heap.size) (hw : wr.ownsRow B e size v0 n0 xs0) : AppR B w wr e size rest p q v0 n0 xs0 n1 xs1 cs x y :=
  ⟨hb, hs, fun _ => hw, fun h => absurd hp h, fun h => absurd hq h⟩
theorem AppR.first (h : AppR B w wr e size rest p q v0 n0 xs0 n1 xs1 cs x y) (hn : rest.Nodup) (hp : p ∈ rest) (hpq : p ≠ q) (hB : B ≤ w.heap.size) {x' : Value} (ho : w'.ownsRow B e size x' n1 xs1) (hg : wr.grownBy w' v0.ownBlock) (hat : x'.ownBlock = v0.ownBlock ∨ x'.ownBlock = some wr.heap.size) : AppR B w w' e size (rest.erase p) p q v0 n0 xs0 n1 xs1 cs x' y :=
  ⟨h.bel.grown hg (Nat.le_trans hB h.sz) (fun k hk => ((h.a0 hp).lt k hk).1), Nat.le_trans h.sz hg.size, fun hm => absurd hm hn.not_mem_erase, fun _ => ho, fun hq => by
    obtain ⟨X, h1, h2, h3, _⟩ := h.b (not_erase hq (Ne.symm hpq))
    refine ⟨X, h1, (hg.block X h2.lt (fun e => h3 hp e.symm)).trans h2, fun hm => absurd hm hn.not_mem_erase, fun _ => ?_⟩
    rcases hat with e2 | e2
    · rw [e2]; exact h3 hp
    · rw [e2]
      intro e3
      injection e3 with e3
      have := h2.lt
      omega⟩
theorem AppR.second (h : AppR B w wr e size rest p q v0 n0 xs0 n1 xs1 cs x y) (_hn : rest.Nodup) (hpq : p ≠ q) (hB : B ≤ w.heap.size) : AppR B w (wr.alloc (.cells cs e)) e size (rest.erase q) p q v0 n0 xs0 n1 xs1 cs x (.slice (some ⟨wr.heap.size, 0, none⟩) 1 1) :=
  have hb : Below wr.heap.size wr (wr.alloc (.cells cs e)) := below_alloc (Below.refl _ _) _
  ⟨h.bel.trans (hb.mono (Nat.le_trans hB h.sz)), Nat.le_trans h.sz hb.size, fun hm => ownsRow_later (h.a0 (in_erase hm)) hb, fun hm => ownsRow_later (h.a1 (not_erase hm hpq)) hb, fun _ => ⟨wr.heap.size, rfl, Blk.new .., fun hm e2 => by have := ((h.a0 (in_erase hm)).lt _ e2).2; omega, fun hm e2 => by have := ((h.a1 (not_erase hm hpq)).lt _ e2).2; omega⟩⟩
theorem AppR.erase (h : AppR B w wr e size rest p q v0 n0 xs0 n1 xs1 cs x y) {r : Nat} (hp : p ≠ r) (hq : q ≠ r) : AppR B w wr e size (rest.erase r) p q v0 n0 xs0 n1 xs1 cs x y :=
  ⟨h.bel, h.sz, fun hm => h.a0 (in_erase hm), fun hm => h.a1 (not_erase hm hp), fun hm => by
    obtain ⟨X, h1, h2, h3, h4⟩ := h.b (not_erase hm hq)
    exact ⟨X, h1, h2, fun hm2 => h3 (in_erase hm2), fun hm2 => h4 (not_erase hm2 hp)⟩⟩
end
/-- The whole region: r: the second append, s: its assignment. -/
def AppI (B : Nat) (w wr : World) (e : TypeId) (size : Nat) (rest : List Nat) (p q r s : Nat) (v0 : Value) (n0 : Nat) (xs0 : List Value) (n1 : Nat) (xs1 : List Value) (cs : Array Value) (x y z f : Value) (n2 : Nat) (xs2 : List Value) : Prop :=
  (r ∈ rest ∧ s ∈ rest ∧ AppR B w wr e size rest p q v0 n0 xs0 n1 xs1 cs x y) ∨ (r ∉ rest ∧ p ∉ rest ∧ q ∉ rest ∧ Below B w wr ∧ wr.ownsRow B e size z n2 xs2 ∧ (s ∉ rest → f = z))
theorem erase_in {c d : Nat} {rest : List Nat} (h : d ∈ rest) (hne : d ≠ c) : d ∈ rest.erase c := (List.mem_erase_of_ne hne).2 h
section
variable {B : Nat} {w wr w' : World} {e : TypeId} {size : Nat} {rest : List Nat} {p q r s : Nat} {v0 : Value} {n0 : Nat} {xs0 : List Value} {n1 : Nat} {xs1 : List Value} {cs : Array Value} {x y z f : Value} {n2 : Nat} {xs2 : List Value}
theorem AppI.bel (h : AppI B w wr e size rest p q r s v0 n0 xs0 n1 xs1 cs x y z f n2 xs2) : Below B w wr := by
  rcases h with ⟨_, _, h⟩ | ⟨_, _, _, h, _⟩
  · exact h.bel
  · exact h
theorem AppI.first (h : AppI B w wr e size rest p q r s v0 n0 xs0 n1 xs1 cs x y z f n2 xs2) (hn : rest.Nodup) (hp : p ∈ rest) (hd : p ≠ q ∧ r ≠ p ∧ s ≠ p) (hB : B ≤ w.heap.size) {x' : Value} (ho : w'.ownsRow B e size x' n1 xs1) (hg : wr.grownBy w' v0.ownBlock) (hat : x'.ownBlock = v0.ownBlock ∨ x'.ownBlock = some wr.heap.size) : AppI B w w' e size (rest.erase p) p q r s v0 n0 xs0 n1 xs1 cs x' y z f n2 xs2 := by
  rcases h with ⟨h1, h2, h⟩ | ⟨_, h, _⟩
  · exact .inl ⟨erase_in h1 hd.2.1, erase_in h2 hd.2.2, h.first hn hp hd.1 hB ho hg hat⟩
  · exact absurd hp h
theorem AppI.row0 (h : AppI B w wr e size rest p q r s v0 n0 xs0 n1 xs1 cs x y z f n2 xs2) (hp : p ∈ rest) : wr.ownsRow B e size v0 n0 xs0 ∧ w.heap.size ≤ wr.heap.size := by
  rcases h with ⟨_, _, h⟩ | ⟨_, h, _⟩
  · exact ⟨h.a0 hp, h.sz⟩
  · exact absurd hp h
theorem AppI.second (h : AppI B w wr e size rest p q r s v0 n0 xs0 n1 xs1 cs x y z f n2 xs2) (hn : rest.Nodup) (hq : q ∈ rest) (hd : p ≠ q ∧ r ≠ q ∧ s ≠ q) (hB : B ≤ w.heap.size) : AppI B w (wr.alloc (.cells cs e)) e size (rest.erase q) p q r s v0 n0 xs0 n1 xs1 cs x (.slice (some ⟨wr.heap.size, 0, none⟩) 1 1) z f n2 xs2 := by
  rcases h with ⟨h1, h2, h⟩ | ⟨_, _, h, _⟩
  · exact .inl ⟨erase_in h1 hd.2.1, erase_in h2 hd.2.2, h.second hn hd.1 hB⟩
  · exact absurd hq h
theorem AppI.parts (h : AppI B w wr e size rest p q r s v0 n0 xs0 n1 xs1 cs x y z f n2 xs2) (hr : r ∈ rest) (hp : p ∉ rest) (hq : q ∉ rest) : w.heap.size ≤ wr.heap.size ∧ wr.ownsRow B e size x n1 xs1 ∧ ∃ X, y = .slice (some ⟨X, 0, none⟩) 1 1 ∧ Blk wr X e cs := by
  rcases h with ⟨_, _, h⟩ | ⟨h, _⟩
  · obtain ⟨X, h1, h2, _⟩ := h.b hq
    exact ⟨h.sz, h.a1 hp, X, h1, h2⟩
  · exact absurd hr h
theorem AppI.third (h : AppI B w wr e size rest p q r s v0 n0 xs0 n1 xs1 cs x y z f n2 xs2) (hn : rest.Nodup) (hr : r ∈ rest) (hp : p ∉ rest) (hq : q ∉ rest) (hd : r ≠ s) (hB : B ≤ w.heap.size) {z' : Value} (ho : w'.ownsRow B e size z' n2 xs2) (hg : wr.grownBy w' x.ownBlock) : AppI B w w' e size (rest.erase r) p q r s v0 n0 xs0 n1 xs1 cs x y z' f n2 xs2 := by
  rcases h with ⟨h1, h2, h⟩ | ⟨h, _⟩
  · exact .inr ⟨hn.not_mem_erase, fun hm => hp (in_erase hm), fun hm => hq (in_erase hm), h.bel.grown hg (Nat.le_trans hB h.sz) (fun k hk => ((h.a1 hp).lt k hk).1), ho, fun hm => absurd (erase_in h2 (Ne.symm hd)) hm⟩
  · exact absurd hr h
theorem AppI.fourth (h : AppI B w wr e size rest p q r s v0 n0 xs0 n1 xs1 cs x y z f n2 xs2) (hr : r ∉ rest) : AppI B w wr e size (rest.erase s) p q r s v0 n0 xs0 n1 xs1 cs x y z z n2 xs2 := by
  rcases h with ⟨h, _⟩ | ⟨h1, h2, h3, h4, h5, _⟩
  · exact absurd h hr
  · exact .inr ⟨fun hm => h1 (in_erase hm), fun hm => h2 (in_erase hm), fun hm => h3 (in_erase hm), h4, h5, fun _ => rfl⟩
theorem AppI.fin (h : AppI B w wr e size [] p q r s v0 n0 xs0 n1 xs1 cs x y z f n2 xs2) : f = z ∧ Below B w wr ∧ wr.ownsRow B e size z n2 xs2 := by
  rcases h with ⟨h, _⟩ | ⟨_, _, _, h4, h5, h6⟩
  · cases h
  · exact ⟨h6 (by simp), h4, h5⟩
end
theorem one_src {w : World} {X : Nat} {e : TypeId} {cs : List Value} {size : Nat} (h : Blk w X e cs.toArray) (hl : cs.length = size) : SrcV w (some ⟨X, 0, none⟩) 1 1 size cs :=
  ⟨by rw [hl, Nat.one_mul], (fun h => by cases h), fun b off j u ho hj => by
    cases ho
    rw [Nat.zero_add]
    exact (h.cell j).trans (by simpa using hj)⟩
/-! ### The jobs and a further one -/
set_option maxRecDepth 100000 in
set_option maxHeartbeats 4000000 in
theorem with_any (J : List Jb) (j : Jb) (oj : Option Addr) (cj : Nat) (w : World) (hj : JobsM w oj J) (hn : J.length ≤ 1000) (hc : oj = none → cj = 0) (hsp : ∀ a, oj = some a → a.spot = none) : Calls Try.prog 28 #[.slice oj J.length cj, jobV j] w (RowJOut (J ++ [j]) w) := by
  have HJ := Lib.hid (jobs_src hj hc)
  have HSP := Lib.hid hsp
  clear hj hc hsp
  obtain ⟨N, hN⟩ : ∃ N, J.length + 1 = N := ⟨_, rfl⟩
  have HN := Lib.hid hN
  have e1 : IntKind.i64.wrap ((J.length : Int) + 1) = (N : Int) := by rw [show (J.length : Int) + 1 = (N : Int) by omega]; exact IntWalk.i64_in _ (by omega)
  have hmk := run_make0 (P := Try.prog) 22 27 (.agg #[.int .i64 0, .int .i64 0, .int .i64 0, .int .i64 0, .int .i64 0]) 5 40 Try.underlying22 (by kernel_rfl) N (by omega) (by omega)
  have HR0 := Lib.hid (fun w : World => made0_row (w := w) (e := 27) (z := .agg #[.int .i64 0, .int .i64 0, .int .i64 0, .int .i64 0, .int .i64 0]) (n := N) (size := 5) (base := w.heap.size) (Nat.le_refl _) (by omega) (size_madeCells _ _))
  obtain ⟨cs, hcs⟩ : ∃ c, madeCells (Value.agg #[.int .i64 0, .int .i64 0, .int .i64 0, .int .i64 0, .int .i64 0]).cells (N * 5) = c := ⟨_, rfl⟩
  rw [hcs] at hmk HR0
  clear hcs
  go_enter Try.func28, Try.ntmps28
  go_upto_region 2 with (fail)
  obtain ⟨W1, hW1⟩ : ∃ W, W = w.alloc (.cells (jobC j) 27) := ⟨_, rfl⟩
  have HB1 := Lib.hid (show Below w.heap.size w W1 by rw [hW1]; exact below_alloc (Below.refl _ _) _)
  have HX1 := Lib.hid (show Blk W1 w.heap.size 27 (jobC j) by rw [hW1]; exact Blk.new ..)
  have HR1 := Lib.hid (HR0.out W1)
  have HSZ := Lib.hid (show W1.heap.size = w.heap.size + 1 by rw [hW1, World.size_alloc])
  rw [← hW1]
  rw [HSZ.out] at HR1
  clear hW1 HR0 hmk hN e1
  obtain ⟨W2, hW2⟩ : ∃ W, W = W1.alloc (.cells cs 27) := ⟨_, rfl⟩
  have hb2 : Below W1.heap.size W1 W2 := by rw [hW2]; exact below_alloc (Below.refl _ _) _
  have HX2 := Lib.hid (HX1.out.later hb2)
  have HB2 := Lib.hid (below_step HB1.out hb2)
  have HS2 := Lib.hid hb2.size
  rw [HSZ.out] at HS2
  rw [← hW2] at HR1 ⊢
  clear hW2 hb2 HX1
  have HW0 := Lib.hid (show w.heap.size < w.heap.size + 1 from Nat.lt_succ_self _)
  have HKEEP := Lib.hid (fun (wr : World) (hb : Below (w.heap.size + 1) W2 wr) => show Blk wr w.heap.size 27 (jobC j) ∧ SrcV wr oj J.length cj 5 (flatJ J) from ⟨HX2.out.below hb (Nat.lt_succ_self _), HJ.out.later (HB2.out.trans (hb.mono (Nat.le_succ _)))⟩)
  obtain ⟨B, hB⟩ : ∃ B, w.heap.size + 1 = B := ⟨_, rfl⟩
  rw [hB] at HR1 HS2 HKEEP
  rw [hB]
  have HBL := Lib.hid (show w.heap.size ≤ B by omega)
  have HNW := Lib.hid (show 0 + J.length ≤ 1000000 by omega)
  have HNW2 := Lib.hid (show J.length + 1 ≤ 1000000 by omega)
  clear hB
  refine wp_region_maskF [2, 4, 5, 6] [true, true, false, true, false, false, false] (fun w'' => Below B W2 w'') mixed (by kernel_rfl) ?_
  intro KR hR
  have HR := Lib.hid hR
  clear hR
  simp only [marked]
  apply wpM_val rfl
  · (intro w' hw'; go_simp; with_reducible rfl)
  simp only [Act.put, List.setIfInBounds_toArray, List.set_cons_zero, List.set_cons_succ]
  apply wpM_val rfl
  · (intro w' hw'; go_simp; with_reducible rfl)
  simp only [Act.put, List.setIfInBounds_toArray, List.set_cons_zero, List.set_cons_succ]
  apply wpM_val rfl
  · (intro w' hw'; have hx := (HKEEP.out w' hw').1; have c0 : w'.cell? ⟨w.heap.size, 0, none⟩ = some (.int .i64 j.f) := hx.cell 0; have c1 : w'.cell? ⟨w.heap.size, 1, none⟩ = some (.int .i64 j.t) := hx.cell 1; have c2 : w'.cell? ⟨w.heap.size, 2, none⟩ = some (.int .i64 j.e) := hx.cell 2; have c3 : w'.cell? ⟨w.heap.size, 3, none⟩ = some (.int .i64 j.r) := hx.cell 3; have c4 : w'.cell? ⟨w.heap.size, 4, none⟩ = some (.int .i64 j.k) := hx.cell 4; clear hx hw'; go_simp; with_reducible rfl)
  simp only [Act.put, List.setIfInBounds_toArray, List.set_cons_zero, List.set_cons_succ]
  refine wpM_nil (HR.out _ ?_)
  clear HR
  refine wpF_inv (fun rest V wr => ∃ x y z f, V = ({ tmps := #[.slice oj J.length cj, jobV j, undef, .pointer (some ⟨w.heap.size, 0, none⟩), f, .slice (some ⟨B, 0, none⟩) 0 N, .slice oj J.length cj, .int .i64 J.length, .int .i64 N, .slice (some ⟨B, 0, none⟩) 0 N, .slice (some ⟨B, 0, none⟩) 0 N, .slice oj J.length cj, x, jobV j, y, z], defers := [] } : Act) ∧ AppI B W2 wr 27 5 rest 2 4 5 6 (.slice (some ⟨B, 0, none⟩) 0 N) 0 [] (0 + J.length) ([] ++ flatJ J) (jobC j) x y z f (0 + J.length + 1) ([] ++ flatJ J ++ flatJ [j])) [2, 4, 5, 6] ?actJ ?actS ?actF _ _ _ _ rfl (by decide) (fun _ h => h) ⟨undef, undef, undef, .slice none 0 0, rfl, .inl ⟨by decide, by decide, AppR.start HR1.out (by decide) (by decide) (Below.refl _ _).drew (Nat.le_refl _) (ownsRow_later HR1.out (Below.refl _ _).drew)⟩⟩
  case actJ =>
    rintro rest V wr ⟨x, y, z, f, rfl, hI⟩
    exact hI.bel
  case actS =>
    rintro rest V wr c hnd hC ⟨x, y, z, f, rfl, hI⟩ hc hf
    have hcc := hC c hc
    simp only [List.mem_cons, List.not_mem_nil, or_false] at hcc
    rcases hcc with rfl | rfl | rfl | rfl
    · obtain ⟨hr0, hs0⟩ := hI.row0 hc
      obtain ⟨x', w', hr, ho, hg, hat⟩ := run_appV elemJ (by decide) hr0 (Nat.le_trans HS2.out hs0) (HKEEP.out wr hI.bel).2 HSP.out (flatJ_one J) HNW.out 22
      refine ⟨_, rfl, rfl, stepC_val (v := x') (w' := w') ?_ ?_⟩
      · exact exec_append _ _ rfl hr
      · simp only [Act.put, List.setIfInBounds_toArray]
        exact ⟨_, _, _, _, rfl, hI.first hnd hc (by decide) HS2.out ho hg hat⟩
    · refine ⟨_, rfl, rfl, stepC_val (v := .slice (some ⟨wr.heap.size, 0, none⟩) 1 1) (w' := wr.alloc (.cells (jobC j) 27)) ?_ ?_⟩
      · clear hI; go_simp
      · simp only [Act.put, List.setIfInBounds_toArray]
        exact ⟨_, _, _, _, rfl, hI.second hnd hc (by decide) HS2.out⟩
    · have h2 : 2 ∉ rest := freeC_done hf (by kernel_rfl)
      have h4 : 4 ∉ rest := freeC_done hf (by kernel_rfl)
      obtain ⟨hs0, hr0, X, rfl, hX⟩ := hI.parts hc h2 h4
      obtain ⟨z', w', hr, ho, hg, hat⟩ := run_appV elemJ (by decide) hr0 (Nat.le_trans HS2.out hs0) (one_src (cs := flatJ [j]) hX rfl) (fun a ha => by cases ha; rfl) (flatJ_one [j]) (by rw [Nat.zero_add]; exact HNW2.out) 22
      refine ⟨_, rfl, rfl, stepC_val (v := z') (w' := w') ?_ ?_⟩
      · exact exec_append _ _ rfl hr
      · simp only [Act.put, List.setIfInBounds_toArray]
        exact ⟨_, _, _, _, rfl, hI.third hnd hc h2 h4 (by decide) HS2.out ho hg⟩
    · have h5 : 5 ∉ rest := freeC_done hf (by kernel_rfl)
      refine ⟨_, rfl, rfl, stepC_val (v := z) (w' := wr) ?_ ?_⟩
      · clear hI; go_simp
      · simp only [Act.put, List.setIfInBounds_toArray]
        exact ⟨_, _, _, _, rfl, hI.fourth h5⟩
  case actF =>
  rintro V W3 ⟨x, y, r3, r4, rfl, hI⟩
  obtain ⟨rfl, hb3, hrow3⟩ := hI.fin
  rw [Nat.zero_add, List.nil_append] at hrow3
  clear hI
  have HEND : Hid (RowJOut (J ++ [j]) w (.returned r4) W3) := Lib.hid ⟨HB2.out.trans (hb3.mono HBL.out), r4, rfl, by
    rw [List.length_append, flatJ_append]
    exact ownsRow_cast (hrow3.mono HBL.out) rfl rfl⟩
  clear hb3 hrow3
  go_wp2
  go_ret
  exact HEND.out
end Go.Proofs.Ythgkfdhkmkbioaa
