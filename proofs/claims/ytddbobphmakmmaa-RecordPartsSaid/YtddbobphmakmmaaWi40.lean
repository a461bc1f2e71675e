/- Chapter 40: chain.Append. -/
import Derived.Test.YtddbobphmakmmaaWh40
import Derived.Test.YtddbobphmakmmaaStage
import Derived.Test.YtddbobphmakmmaaRowG
import Derived.Deep.AppendSrc
import Derived.Deep.RegionLaw
import Derived.Laws.MakeOwn
namespace Go.Proofs.Ytddbobphmakmmaa
open Go.RowKit
attribute [local go_sem] Oper.semAt_some

/-! ### The cells of readings in a row -/
def rdC (x : Rd) : List Value := [.int .i64 x.s, .int .i64 x.n, .int .i64 x.m, .int .i64 x.r, .int .u64 x.k]
def flat (l : List Rd) : List Value := l.flatMap rdC
theorem flat_cons (x : Rd) (l : List Rd) : flat (x :: l) = rdC x ++ flat l := rfl
theorem flat_length : ∀ l : List Rd, (flat l).length = l.length * 5
  | [] => rfl
  | x :: l => by rw [flat_cons, List.length_append, flat_length l]; simp [rdC]; omega
theorem flat_append (l l' : List Rd) : flat (l ++ l') = flat l ++ flat l' := List.flatMap_append ..
theorem flat_one (x : Rd) : flat [x] = rdC x := by simp [flat]
theorem flat_get : ∀ (l : List Rd) (i j : Nat), i < l.length → j < 5 → (flat l)[i * 5 + j]? = (rdC (getR l i))[j]?
  | [], _, _, h, _ => absurd h (Nat.not_lt_zero _)
  | x :: l, 0, j, _, hj => by
    rw [flat_cons, Nat.zero_mul, Nat.zero_add, List.getElem?_append_left (by simpa [rdC] using hj)]
    rfl
  | x :: l, i + 1, j, hi, hj => by
    rw [flat_cons, List.getElem?_append_right (by simp [rdC]; omega), show (i + 1) * 5 + j - (rdC x).length = i * 5 + j by simp [rdC]; omega, flat_get l i j (by simpa using hi) hj]
    simp [getR]
theorem flat_one' {l : List Rd} {u : Value} (h : u ∈ flat l) : u.oneCell' = true := by
  obtain ⟨x, _, hx⟩ := List.mem_flatMap.1 h
  simp only [rdC, List.mem_cons, List.not_mem_nil, or_false] at hx
  rcases hx with rfl | rfl | rfl | rfl | rfl <;> rfl

theorem rds_flat {w : World} {b off : Nat} {l : List Rd} : Rds w (some ⟨b, off, none⟩) l ↔ ∀ j u, (flat l)[j]? = some u → w.cell? ⟨b, off + j, none⟩ = some u := by
  constructor
  · intro h j u hu
    have hj : j < (flat l).length := (List.getElem?_eq_some_iff.1 hu).1
    rw [flat_length] at hj
    obtain ⟨b', off', e, h0, h1, h2, h3, h4⟩ := h (j / 5) (by omega)
    cases e
    have hm : j % 5 < 5 := Nat.mod_lt _ (by decide)
    have hd := Nat.div_add_mod j 5
    obtain ⟨k, hk⟩ : ∃ k, j % 5 = k := ⟨_, rfl⟩
    have ej : j = j / 5 * 5 + k := by omega
    have hu' := flat_get l (j / 5) k (by omega) (by omega)
    rw [← ej, hu] at hu'
    rw [show off + j = off + j / 5 * 5 + k by omega]
    rcases (show k = 0 ∨ k = 1 ∨ k = 2 ∨ k = 3 ∨ k = 4 by omega) with rfl | rfl | rfl | rfl | rfl <;> simp only [rdC, List.getElem?_cons_zero, List.getElem?_cons_succ, Option.some.injEq] at hu' <;> subst hu' <;> assumption
  · intro h i hi
    refine ⟨b, off, rfl, ?_⟩
    have hh : ∀ k u, k < 5 → (rdC (getR l i))[k]? = some u → w.cell? ⟨b, off + i * 5 + k, none⟩ = some u := fun k u hk hu => by
      rw [Nat.add_assoc]
      exact h _ _ ((flat_get l i k hi hk).trans hu)
    exact ⟨hh 0 _ (by omega) rfl, hh 1 _ (by omega) rfl, hh 2 _ (by omega) rfl, hh 3 _ (by omega) rfl, hh 4 _ (by omega) rfl⟩

theorem below_alloc0 (w : World) (o : Obj) : Below w.heap.size w (w.alloc o) := by go_grown
theorem chk_len {seed : Nat} {l : List Rd} (h : ¬ 0 ≤ chk seed l) : l.length ≤ 64 := by
  rcases chk_is seed l with ⟨_, ha⟩ | ⟨k, _, e, _⟩
  · refine ordered_le (ordered_iff.2 fun i hi => ?_)
    have := ha i hi
    unfold rightAt at this
    rw [Bool.and_eq_true] at this
    exact this.1
  · rw [e] at h; omega

theorem elemRd : ElemI Try.prog 26 45 5 40 := ElemI.of (by kernel_rfl) (by kernel_rfl) (by decide)
theorem make_rds (n : Nat) (hn : n ≤ 1000) : ∃ L : List Value, L.length = (n + 1) * 5 ∧ ∀ W : World, (Instr.makeSlice 26 (.int .i64 0) (.int .i64 ((n : Int) + 1))).run Try.prog W = .ok (.slice (some ⟨W.heap.size, 0, none⟩) 0 (n + 1)) (W.alloc (.cells L.toArray 45)) := by
  obtain ⟨i, z, h1, h2, h3, h4, h5⟩ := elemRd.info
  refine ⟨(madeCells z.cells ((n + 1) * 5)).toList, by rw [Array.length_toList, size_madeCells], fun W => ?_⟩
  have := run_make W 26 45 i z (by kernel_rfl) h1 h2 .i64 .i64 0 ((n : Int) + 1) (by omega) (by omega) (by rw [h4]; omega) (by omega)
  rw [this, h3, show ((n : Int) + 1).toNat = n + 1 by omega]
  simp

/-- What holds while the region is run: g the block of the reading, B that of the new row, S that of the row of one. -/
structure ApI (w : World) (g B S : Nat) (l : List Rd) (x : Rd) (listed : Array Bool) (W : World) : Prop where
  bel : Below w.heap.size w W
  gx : RdB W g x
  row : ∃ L, Arr W B 45 L ∧ L.length = (l.length + 1) * 5 ∧ (listed.getD 2 false = true → ∀ (j : Nat) (u : Value), (flat l)[j]? = some u → L[j]? = some u)
  sz : listed.getD 4 false = false → W.heap.size = S
  one : listed.getD 4 false = true → Arr W S 45 (rdC x)

theorem getD_other {listed : Array Bool} {i k : Nat} (h : i ≠ k) : (listed.setIfInBounds i true).getD k false = listed.getD k false := by
  simp [Array.getD_eq_getD_getElem?, Array.getElem?_setIfInBounds_ne h]
theorem getD_false {listed : Array Bool} {i : Nat} (h : listed.getD i true = false) : listed.getD i false = false := by
  rw [Array.getD_eq_getD_getElem?] at h ⊢
  cases hh : listed[i]? with
  | none => rfl
  | some b => rw [hh] at h; exact h

section
variable {w W : World} {g B S : Nat} {l : List Rd} {x : Rd} {listed : Array Bool}
theorem ApI.skip (h : ApI w g B S l x listed W) {i : Nat} (h2 : i ≠ 2) (h4 : i ≠ 4) : ApI w g B S l x (listed.setIfInBounds i true) W := by
  obtain ⟨a, b, ⟨L, c1, c2, c3⟩, d, e⟩ := h
  exact ⟨a, b, ⟨L, c1, c2, by rw [getD_other h2]; exact c3⟩, by rw [getD_other h4]; exact d, by rw [getD_other h4]; exact e⟩
theorem ApI.built (h : ApI w g B S l x listed W) (hl : listed.getD 4 true = false) : W.heap.size = S ∧ ApI w g B S l x (listed.setIfInBounds 4 true) (W.alloc (.cells (rdC x).toArray 45)) := by
  obtain ⟨a, b, ⟨L, c1, c2, c3⟩, d, e⟩ := h
  have hS := d (getD_false hl)
  refine ⟨hS, below_step a (below_alloc0 W _), Blk.alloc b _, ⟨L, c1.alloc _, c2, by rw [getD_other (by decide)]; exact c3⟩, fun hf => ?_, fun _ => ?_⟩
  · have h4 : 4 < listed.size := by
      rcases Nat.lt_or_ge 4 listed.size with h | h
      · exact h
      · rw [Array.getD_eq_getD_getElem?, Array.getElem?_eq_none h] at hl; cases hl
    simp [h4] at hf
  · subst hS
    exact Arr.new ..
theorem ApI.copied (h : ApI w g B S l x listed W) (hgB : g ≠ B) (hSB : S ≠ B) (hwB : w.heap.size ≤ B) : ApI w g B S l x (listed.setIfInBounds 2 true) (W.setCells B (0 + 0 * 5) (flat l)) := by
  obtain ⟨a, b, ⟨L, c1, c2, c3⟩, d, e⟩ := h
  obtain ⟨cs', k1, k2, k3⟩ := Blk.setCells (flat l) (0 + 0 * 5) W _ c1
  refine ⟨below_setCells a hwB _ _, (heap_setCells B _ _ W g hgB).trans b, ⟨cs'.toList, by unfold Arr; simpa using k1, by rw [Array.length_toList, k2]; simpa using c2, fun _ j u hu => ?_⟩, ?_, ?_⟩
  · have hj : j < (flat l).length := (List.getElem?_eq_some_iff.1 hu).1
    have hjl : j < L.toArray.size := by rw [flat_length] at hj; simp; omega
    have := k3 j hjl
    rw [if_pos (by omega)] at this
    rw [Array.getElem?_toList, this]
    simpa using hu
  · rw [getD_other (by decide), size_setCells]; exact d
  · rw [getD_other (by decide)]; exact fun h4 => (e h4).otherCells hSB _
end

section
variable {w W : World} {g B S : Nat} {l : List Rd} {x : Rd}
theorem ApI.done (h : ApI w g B S l x (finL 8 5) W) : Rds (W.setCells B (0 + l.length * 5) (rdC x)) (some ⟨B, 0, none⟩) (l ++ [x]) := by
  obtain ⟨a, b, ⟨L, c1, c2, c3⟩, d, e⟩ := h
  have c3 := c3 rfl
  obtain ⟨cs', k1, k2, k3⟩ := Blk.setCells (rdC x) (0 + l.length * 5) W _ c1
  rw [rds_flat]
  intro j u hu
  have hj : j < (flat (l ++ [x])).length := (List.getElem?_eq_some_iff.1 hu).1
  rw [flat_length] at hj
  simp only [List.length_append, List.length_cons, List.length_nil] at hj
  have h5 : (rdC x).length = 5 := rfl
  rw [Blk.cell k1, Nat.zero_add, k3 j (by simp; omega)]
  rw [flat_append, flat_one] at hu
  by_cases hl : j < l.length * 5
  · rw [if_neg (by omega)]
    rw [List.getElem?_append_left (by rw [flat_length]; exact hl)] at hu
    simpa using c3 j u hu
  · rw [if_pos (by omega)]
    rw [List.getElem?_append_right (by rw [flat_length]; omega), flat_length] at hu
    rw [Nat.zero_add]
    exact hu
theorem ApI.spare (h : ApI w g B S l x (finL 8 5) W) : ∀ j, j < (rdC x).length → (W.cell? ⟨B, 0 + l.length * 5 + j, none⟩).isSome = true ∧ W.frozen? ⟨B, 0 + l.length * 5 + j, none⟩ = false := by
  obtain ⟨a, b, ⟨L, c1, c2, c3⟩, d, e⟩ := h
  intro j hj
  have h5 : (rdC x).length = 5 := rfl
  refine ⟨?_, Arr.frozen c1 _⟩
  rw [Arr.cell c1 (List.getElem?_eq_getElem (by omega))]
  rfl
theorem ApI.news (h : ApI w g B S l x (finL 8 5) W) : ∀ (j : Nat) (u : Value), (rdC x)[j]? = some u → W.cell? ((⟨S, 0, none⟩ : Addr).add j) = some u := fun j u hu => by
  rw [Addr.add_lit, Nat.zero_add]
  exact (h.one rfl).cell hu
theorem rdC_one (x : Rd) : ∀ u ∈ rdC x, u.oneCell' = true := fun u hu => flat_one' (l := [x]) (by rw [flat_one]; exact hu)
theorem src_rds {o : Option Addr} {cap : Nat} (h : Rds W o l) : Src Try.prog 5 26 (.slice o l.length cap) l.length (flat l) W := by
  cases l with
  | nil =>
    cases o with
    | none => exact Src.ofNil W (e' := 45) (by kernel_rfl) cap
    | some a => exact Src.ofSlice W (e' := 45) (by kernel_rfl) a 0 cap [] rfl (fun j u hu => by simp at hu) (fun u hu => by cases hu)
  | cons y l =>
    obtain ⟨b, off, rfl, _⟩ := h 0 (by simp)
    refine Src.ofSlice W (e' := 45) (by kernel_rfl) _ _ cap _ (flat_length _) (fun j u hu => ?_) (fun u hu => flat_one' hu)
    rw [Addr.add_lit]
    exact rds_flat.1 h j u hu
theorem ApI.append {listed : Array Bool} {o : Option Addr} {cap : Nat} (h : ApI w g B S l x listed W) (hr : Rds w o l) (ty : TypeId) :
    (Builtin.append_ #[26, 26] ty #[.slice (some ⟨B, 0, none⟩) 0 (l.length + 1), .slice o l.length cap]).run Try.prog W = .ok (.slice (some ⟨B, 0, none⟩) l.length (l.length + 1)) (W.setCells B (0 + 0 * 5) (flat l)) := by
  obtain ⟨i, z, h1, h2, h3, h4, h5⟩ := elemRd.info
  obtain ⟨a, b, ⟨L, c1, c2, c3⟩, d, e⟩ := h
  have hsrc := src_rds (cap := cap) (hr.later a)
  have := run_append_room_src (P := Try.prog) W 26 26 ty 45 i (by kernel_rfl) h1 B 0 0 (l.length + 1) (.slice o l.length cap) l.length (flat l) (by rw [h3]; exact hsrc) (by omega)
    (fun j hj => by
      rw [flat_length] at hj
      rw [h3, Arr.cell c1 (List.getElem?_eq_getElem (by omega))]
      rfl) (fun j hj => Arr.frozen c1 _)
  rw [h3, Nat.zero_add l.length] at this
  exact this
end
theorem gives_of {P : Program} {Q : World → Prop} {v : Value} {r : Result Next} {W : World} (h : r = .ok (.value v) W) (hq : Q W) : Gives P Q v r := by subst h; exact ⟨rfl, hq⟩

theorem wpList_append_room {P : Program} {ops : Array Oper} {rest : List Oper} {o : Oper} {a : Act} {w : World} {Q : Exit → Act → World → Prop}
    (hg : o.guard = none) (s x : Operand) (t : TypeId) (hop : o.op = Op.call { callee := Callee.builtin Builtin.append, args := #[s, x], argTypes := #[t, t] })
    (e : TypeId) (i : TypeInfo) (size : Nat) (h1 : P.underlying t = some (.slice e)) (h2 : P.info? e = some i) (h4 : i.size = size)
    (b off n cap : Nat) (hs : a.eval s = .slice (some ⟨b, off, none⟩) n cap)
    (ad : Addr) (m c : Nat) (news : List Value) (hx : a.eval x = .slice (some ad) m c) (hn : news.length = m * size) (hc : ∀ j u, news[j]? = some u → w.cell? (ad.add j) = some u) (h1c : ∀ u ∈ news, u.oneCell' = true)
    (hroom : n + m ≤ cap) (hspare : ∀ j, j < news.length → (w.cell? ⟨b, off + n * size + j, none⟩).isSome = true ∧ w.frozen? ⟨b, off + n * size + j, none⟩ = false)
    (hK : wpList P ops Q rest (a.put o.dst (.slice (some ⟨b, off, none⟩) (n + m) cap)) (w.setCells b (off + n * size) news)) : wpList P ops Q (o :: rest) a w := by
  have hw : Region.wanted o (yielded ops a.tmps) = true := by simp [Region.wanted, hg]
  have := step_append_room (P := P) (ops := ops) (K := wpList P ops Q rest) (Q := Q) (E := True) hg s x t hop e i size h1 h2 h4 b off n cap hs ad m c news hx hn hc h1c hroom hspare hK
  rw [if_pos hw] at this
  unfold wpList
  rw [if_pos hw]
  exact .inl this

/-! ### What Append answers -/
def newRd (l : List Rd) (s m r : Int) : Rd := ⟨s, IntKind.i64.wrap ((l.length : Int) + 1), m, r, 0, by decide⟩
def apErr (seed : Nat) (l : List Rd) (s m r : Int) : Int :=
  if 0 ≤ chk seed l then 11 else if l.length = 64 then 10 else if validR (newRd l s m r) = false then 1 else
  match prevAt l l.length with | none => 0 | some b => if oldR b (newRd l s m r) then 12 else if laterR b (newRd l s m r) then 6 else 0
def apRd (seed : Nat) (l : List Rd) (s m r : Int) (hs : seed < 18446744073709551616) : Rd :=
  ⟨s, (l.length : Int) + 1, m, r, link (stAt seed l l.length) (newRd l s m r), by
    refine link_lt ?_
    unfold stAt
    split
    · exact hs
    · rename_i b _; exact b.hk⟩
def AppOut (seed : Nat) (l : List Rd) (s m r : Int) (hs : seed < 18446744073709551616) (w : World) (e : Ending) (w' : World) : Prop :=
  Below w.heap.size w w' ∧ ((apErr seed l s m r ≠ 0 ∧ e = .returned (.tuple #[.slice none 0 0, .int .i64 (apErr seed l s m r)])) ∨
    (apErr seed l s m r = 0 ∧ ∃ b cap, w.heap.size ≤ b ∧ l.length + 1 ≤ cap ∧ e = .returned (.tuple #[.slice (some ⟨b, 0, none⟩) (l.length + 1) cap, .int .i64 0]) ∧ Rds w' (some ⟨b, 0, none⟩) (l ++ [apRd seed l s m r hs])))

/-! ### Walks of Append -/
end Go.Proofs.Ytddbobphmakmmaa
