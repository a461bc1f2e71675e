/- Chapter 40: chain.Append. -/
import Derived.Test.YtckbooccgdddbaaWh40
import Derived.Test.YtckbooccgdddbaaStage
import Derived.Test.YtckbooccgdddbaaRowG
import Derived.Deep.AppendSrc
import Derived.Deep.RegionLaw
import Derived.Laws.MakeOwn
namespace Go.Proofs.Ytckbooccgdddbaa
open Go.RowKit
attribute [local go_sem] Oper.semAt_some

/-! ### The cells of readings in a row -/
def rdC (x : Rd) : List Value := [.int .i64 x.s, .int .i64 x.n, .int .i64 x.m, .int .i64 x.r, .int .u64 x.k]
def flat (l : List Rd) : List Value := l.flatMap rdC
theorem flat_cons (x : Rd) (l : List Rd) : flat (x :: l) = rdC x ++ flat l := rfl
theorem flat_length : ∀ l : List Rd, (flat l).length = l.length * 5
  | [] => rfl
  | x :: l => by rw [flat_cons, List.length_append, flat_length l]; simp [rdC]; omega
theorem flat_append (l l' : List Rd) : flat (l ++ l') = flat l ++ flat l' := List.flatMap_append ..
theorem flat_one (x : Rd) : flat [x] = rdC x := by simp [flat]
theorem flat_get : ∀ (l : List Rd) (i j : Nat), i < l.length → j < 5 → (flat l)[i * 5 + j]? = (rdC (getR l i))[j]?
  | [], _, _, h, _ => absurd h (Nat.not_lt_zero _)
  | x :: l, 0, j, _, hj => by
    rw [flat_cons, Nat.zero_mul, Nat.zero_add, List.getElem?_append_left (by simpa [rdC] using hj)]
    rfl
  | x :: l, i + 1, j, hi, hj => by
    rw [flat_cons, List.getElem?_append_right (by simp [rdC]; omega), show (i + 1) * 5 + j - (rdC x).length = i * 5 + j by simp [rdC]; omega, flat_get l i j (by simpa using hi) hj]
    simp [getR]
theorem flat_one' {l : List Rd} {u : Value} (h : u ∈ flat l) : u.oneCell' = true := by
  obtain ⟨x, _, hx⟩ := List.mem_flatMap.1 h
  simp only [rdC, List.mem_cons, List.not_mem_nil, or_false] at hx
  rcases hx with rfl | rfl | rfl | rfl | rfl <;> rfl

theorem rds_flat {w : World} {b off : Nat} {l : List Rd} : Rds w (some ⟨b, off, none⟩) l ↔ ∀ j u, (flat l)[j]? = some u → w.cell? ⟨b, off + j, none⟩ = some u := by
  constructor
  · intro h j u hu
    have hj : j < (flat l).length := (List.getElem?_eq_some_iff.1 hu).1
    rw [flat_length] at hj
    obtain ⟨b', off', e, h0, h1, h2, h3, h4⟩ := h (j / 5) (by omega)
    cases e
    have hm : j % 5 < 5 := Nat.mod_lt _ (by decide)
    have hd := Nat.div_add_mod j 5
    obtain ⟨k, hk⟩ : ∃ k, j % 5 = k := ⟨_, rfl⟩
    have ej : j = j / 5 * 5 + k := by omega
    have hu' := flat_get l (j / 5) k (by omega) (by omega)
    rw [← ej, hu] at hu'
    rw [show off + j = off + j / 5 * 5 + k by omega]
    rcases (show k = 0 ∨ k = 1 ∨ k = 2 ∨ k = 3 ∨ k = 4 by omega) with rfl | rfl | rfl | rfl | rfl <;> simp only [rdC, List.getElem?_cons_zero, List.getElem?_cons_succ, Option.some.injEq] at hu' <;> subst hu' <;> assumption
  · intro h i hi
    refine ⟨b, off, rfl, ?_⟩
    have hh : ∀ k u, k < 5 → (rdC (getR l i))[k]? = some u → w.cell? ⟨b, off + i * 5 + k, none⟩ = some u := fun k u hk hu => by
      rw [Nat.add_assoc]
      exact h _ _ ((flat_get l i k hi hk).trans hu)
    exact ⟨hh 0 _ (by omega) rfl, hh 1 _ (by omega) rfl, hh 2 _ (by omega) rfl, hh 3 _ (by omega) rfl, hh 4 _ (by omega) rfl⟩

theorem below_alloc0 (w : World) (o : Obj) : Below w.heap.size w (w.alloc o) := by go_grown
theorem chk_len {seed : Nat} {l : List Rd} (h : ¬ 0 ≤ chk seed l) : l.length ≤ 64 := by
  rcases chk_is seed l with ⟨_, ha⟩ | ⟨k, _, e, _⟩
  · refine ordered_le (ordered_iff.2 fun i hi => ?_)
    have := ha i hi
    unfold rightAt at this
    rw [Bool.and_eq_true] at this
    exact this.1
  · rw [e] at h; omega

theorem elemRd : ElemI Try.prog 23 25 5 40 := ElemI.of (by kernel_rfl) (by kernel_rfl) (by decide)
theorem make_rds (n : Nat) (hn : n ≤ 1000) : ∃ L : List Value, L.length = (n + 1) * 5 ∧ ∀ W : World, (Instr.makeSlice 23 (.int .i64 0) (.int .i64 ((n : Int) + 1))).run Try.prog W = .ok (.slice (some ⟨W.heap.size, 0, none⟩) 0 (n + 1)) (W.alloc (.cells L.toArray 25)) := by
  obtain ⟨i, z, h1, h2, h3, h4, h5⟩ := elemRd.info
  refine ⟨(madeCells z.cells ((n + 1) * 5)).toList, by rw [Array.length_toList, size_madeCells], fun W => ?_⟩
  have := run_make W 23 25 i z (by kernel_rfl) h1 h2 .i64 .i64 0 ((n : Int) + 1) (by omega) (by omega) (by rw [h4]; omega) (by omega)
  rw [this, h3, show ((n : Int) + 1).toNat = n + 1 by omega]
  simp

/-- What holds while the region is run: g the block of the reading, B that of the new row, S that of the row of one. -/
structure ApI (w : World) (g B S : Nat) (l : List Rd) (x : Rd) (listed : Array Bool) (W : World) : Prop where
  bel : Below w.heap.size w W
  gx : RdB W g x
  row : ∃ L, Arr W B 25 L ∧ L.length = (l.length + 1) * 5 ∧ (listed.getD 2 false = true → ∀ (j : Nat) (u : Value), (flat l)[j]? = some u → L[j]? = some u)
  sz : listed.getD 4 false = false → W.heap.size = S
  one : listed.getD 4 false = true → Arr W S 25 (rdC x)

theorem getD_other {listed : Array Bool} {i k : Nat} (h : i ≠ k) : (listed.setIfInBounds i true).getD k false = listed.getD k false := by
  simp [Array.getD_eq_getD_getElem?, Array.getElem?_setIfInBounds_ne h]
theorem getD_false {listed : Array Bool} {i : Nat} (h : listed.getD i true = false) : listed.getD i false = false := by
  rw [Array.getD_eq_getD_getElem?] at h ⊢
  cases hh : listed[i]? with
  | none => rfl
  | some b => rw [hh] at h; exact h

section
variable {w W : World} {g B S : Nat} {l : List Rd} {x : Rd} {listed : Array Bool}
theorem ApI.skip (h : ApI w g B S l x listed W) {i : Nat} (h2 : i ≠ 2) (h4 : i ≠ 4) : ApI w g B S l x (listed.setIfInBounds i true) W := by
  obtain ⟨a, b, ⟨L, c1, c2, c3⟩, d, e⟩ := h
  exact ⟨a, b, ⟨L, c1, c2, by rw [getD_other h2]; exact c3⟩, by rw [getD_other h4]; exact d, by rw [getD_other h4]; exact e⟩
theorem ApI.built (h : ApI w g B S l x listed W) (hl : listed.getD 4 true = false) : W.heap.size = S ∧ ApI w g B S l x (listed.setIfInBounds 4 true) (W.alloc (.cells (rdC x).toArray 25)) := by
  obtain ⟨a, b, ⟨L, c1, c2, c3⟩, d, e⟩ := h
  have hS := d (getD_false hl)
  refine ⟨hS, below_step a (below_alloc0 W _), Blk.alloc b _, ⟨L, c1.alloc _, c2, by rw [getD_other (by decide)]; exact c3⟩, fun hf => ?_, fun _ => ?_⟩
  · have h4 : 4 < listed.size := by
      rcases Nat.lt_or_ge 4 listed.size with h | h
      · exact h
      · rw [Array.getD_eq_getD_getElem?, Array.getElem?_eq_none h] at hl; cases hl
    simp [h4] at hf
  · subst hS
    exact Arr.new ..
theorem ApI.copied (h : ApI w g B S l x listed W) (hgB : g ≠ B) (hSB : S ≠ B) (hwB : w.heap.size ≤ B) : ApI w g B S l x (listed.setIfInBounds 2 true) (W.setCells B (0 + 0 * 5) (flat l)) := by
  obtain ⟨a, b, ⟨L, c1, c2, c3⟩, d, e⟩ := h
  obtain ⟨cs', k1, k2, k3⟩ := Blk.setCells (flat l) (0 + 0 * 5) W _ c1
  refine ⟨below_setCells a hwB _ _, (heap_setCells B _ _ W g hgB).trans b, ⟨cs'.toList, by unfold Arr; simpa using k1, by rw [Array.length_toList, k2]; simpa using c2, fun _ j u hu => ?_⟩, ?_, ?_⟩
  · have hj : j < (flat l).length := (List.getElem?_eq_some_iff.1 hu).1
    have hjl : j < L.toArray.size := by rw [flat_length] at hj; simp; omega
    have := k3 j hjl
    rw [if_pos (by omega)] at this
    rw [Array.getElem?_toList, this]
    simpa using hu
  · rw [getD_other (by decide), size_setCells]; exact d
  · rw [getD_other (by decide)]; exact fun h4 => (e h4).otherCells hSB _
end

section
variable {w W : World} {g B S : Nat} {l : List Rd} {x : Rd}
theorem ApI.done (h : ApI w g B S l x (finL 8 5) W) : Rds (W.setCells B (0 + l.length * 5) (rdC x)) (some ⟨B, 0, none⟩) (l ++ [x]) := by
  obtain ⟨a, b, ⟨L, c1, c2, c3⟩, d, e⟩ := h
  have c3 := c3 rfl
  obtain ⟨cs', k1, k2, k3⟩ := Blk.setCells (rdC x) (0 + l.length * 5) W _ c1
  rw [rds_flat]
  intro j u hu
  have hj : j < (flat (l ++ [x])).length := (List.getElem?_eq_some_iff.1 hu).1
  rw [flat_length] at hj
  simp only [List.length_append, List.length_cons, List.length_nil] at hj
  have h5 : (rdC x).length = 5 := rfl
  rw [Blk.cell k1, Nat.zero_add, k3 j (by simp; omega)]
  rw [flat_append, flat_one] at hu
  by_cases hl : j < l.length * 5
  · rw [if_neg (by omega)]
    rw [List.getElem?_append_left (by rw [flat_length]; exact hl)] at hu
    simpa using c3 j u hu
  · rw [if_pos (by omega)]
    rw [List.getElem?_append_right (by rw [flat_length]; omega), flat_length] at hu
    rw [Nat.zero_add]
    exact hu
theorem ApI.spare (h : ApI w g B S l x (finL 8 5) W) : ∀ j, j < (rdC x).length → (W.cell? ⟨B, 0 + l.length * 5 + j, none⟩).isSome = true ∧ W.frozen? ⟨B, 0 + l.length * 5 + j, none⟩ = false := by
  obtain ⟨a, b, ⟨L, c1, c2, c3⟩, d, e⟩ := h
  intro j hj
  have h5 : (rdC x).length = 5 := rfl
  refine ⟨?_, Arr.frozen c1 _⟩
  rw [Arr.cell c1 (List.getElem?_eq_getElem (by omega))]
  rfl
theorem ApI.news (h : ApI w g B S l x (finL 8 5) W) : ∀ (j : Nat) (u : Value), (rdC x)[j]? = some u → W.cell? ((⟨S, 0, none⟩ : Addr).add j) = some u := fun j u hu => by
  rw [Addr.add_lit, Nat.zero_add]
  exact (h.one rfl).cell hu
theorem rdC_one (x : Rd) : ∀ u ∈ rdC x, u.oneCell' = true := fun u hu => flat_one' (l := [x]) (by rw [flat_one]; exact hu)
theorem src_rds {o : Option Addr} {cap : Nat} (h : Rds W o l) : Src Try.prog 5 23 (.slice o l.length cap) l.length (flat l) W := by
  cases l with
  | nil =>
    cases o with
    | none => exact Src.ofNil W (e' := 25) (by kernel_rfl) cap
    | some a => exact Src.ofSlice W (e' := 25) (by kernel_rfl) a 0 cap [] rfl (fun j u hu => by simp at hu) (fun u hu => by cases hu)
  | cons y l =>
    obtain ⟨b, off, rfl, _⟩ := h 0 (by simp)
    refine Src.ofSlice W (e' := 25) (by kernel_rfl) _ _ cap _ (flat_length _) (fun j u hu => ?_) (fun u hu => flat_one' hu)
    rw [Addr.add_lit]
    exact rds_flat.1 h j u hu
theorem ApI.append {listed : Array Bool} {o : Option Addr} {cap : Nat} (h : ApI w g B S l x listed W) (hr : Rds w o l) (ty : TypeId) :
    (Builtin.append_ #[23, 23] ty #[.slice (some ⟨B, 0, none⟩) 0 (l.length + 1), .slice o l.length cap]).run Try.prog W = .ok (.slice (some ⟨B, 0, none⟩) l.length (l.length + 1)) (W.setCells B (0 + 0 * 5) (flat l)) := by
  obtain ⟨i, z, h1, h2, h3, h4, h5⟩ := elemRd.info
  obtain ⟨a, b, ⟨L, c1, c2, c3⟩, d, e⟩ := h
  have hsrc := src_rds (cap := cap) (hr.later a)
  have := run_append_room_src (P := Try.prog) W 23 23 ty 25 i (by kernel_rfl) h1 B 0 0 (l.length + 1) (.slice o l.length cap) l.length (flat l) (by rw [h3]; exact hsrc) (by omega)
    (fun j hj => by
      rw [flat_length] at hj
      rw [h3, Arr.cell c1 (List.getElem?_eq_getElem (by omega))]
      rfl) (fun j hj => Arr.frozen c1 _)
  rw [h3, Nat.zero_add l.length] at this
  exact this
end
theorem gives_of {P : Program} {Q : World → Prop} {v : Value} {r : Result Next} {W : World} (h : r = .ok (.value v) W) (hq : Q W) : Gives P Q v r := by subst h; exact ⟨rfl, hq⟩

theorem wpList_append_room {P : Program} {ops : Array Oper} {rest : List Oper} {o : Oper} {a : Act} {w : World} {Q : Exit → Act → World → Prop}
    (hg : o.guard = none) (s x : Operand) (t : TypeId) (hop : o.op = Op.call { callee := Callee.builtin Builtin.append, args := #[s, x], argTypes := #[t, t] })
    (e : TypeId) (i : TypeInfo) (size : Nat) (h1 : P.underlying t = some (.slice e)) (h2 : P.info? e = some i) (h4 : i.size = size)
    (b off n cap : Nat) (hs : a.eval s = .slice (some ⟨b, off, none⟩) n cap)
    (ad : Addr) (m c : Nat) (news : List Value) (hx : a.eval x = .slice (some ad) m c) (hn : news.length = m * size) (hc : ∀ j u, news[j]? = some u → w.cell? (ad.add j) = some u) (h1c : ∀ u ∈ news, u.oneCell' = true)
    (hroom : n + m ≤ cap) (hspare : ∀ j, j < news.length → (w.cell? ⟨b, off + n * size + j, none⟩).isSome = true ∧ w.frozen? ⟨b, off + n * size + j, none⟩ = false)
    (hK : wpList P ops Q rest (a.put o.dst (.slice (some ⟨b, off, none⟩) (n + m) cap)) (w.setCells b (off + n * size) news)) : wpList P ops Q (o :: rest) a w := by
  have hw : Region.wanted o (yielded ops a.tmps) = true := by simp [Region.wanted, hg]
  have := step_append_room (P := P) (ops := ops) (K := wpList P ops Q rest) (Q := Q) (E := True) hg s x t hop e i size h1 h2 h4 b off n cap hs ad m c news hx hn hc h1c hroom hspare hK
  rw [if_pos hw] at this
  unfold wpList
  rw [if_pos hw]
  exact .inl this

/-! ### What Append answers -/
def newRd (l : List Rd) (s m r : Int) : Rd := ⟨s, IntKind.i64.wrap ((l.length : Int) + 1), m, r, 0, by decide⟩
def apErr (seed : Nat) (l : List Rd) (s m r : Int) : Int :=
  if 0 ≤ chk seed l then 11 else if l.length = 64 then 10 else if validR (newRd l s m r) = false then 1 else
  match prevAt l l.length with | none => 0 | some b => if oldR b (newRd l s m r) then 12 else if laterR b (newRd l s m r) then 6 else 0
def apRd (seed : Nat) (l : List Rd) (s m r : Int) (hs : seed < 18446744073709551616) : Rd :=
  ⟨s, (l.length : Int) + 1, m, r, link (stAt seed l l.length) (newRd l s m r), by
    refine link_lt ?_
    unfold stAt
    split
    · exact hs
    · rename_i b _; exact b.hk⟩
def AppOut (seed : Nat) (l : List Rd) (s m r : Int) (hs : seed < 18446744073709551616) (w : World) (e : Ending) (w' : World) : Prop :=
  Below w.heap.size w w' ∧ ((apErr seed l s m r ≠ 0 ∧ e = .returned (.tuple #[.slice none 0 0, .int .i64 (apErr seed l s m r)])) ∨
    (apErr seed l s m r = 0 ∧ ∃ b cap, w.heap.size ≤ b ∧ l.length + 1 ≤ cap ∧ e = .returned (.tuple #[.slice (some ⟨b, 0, none⟩) (l.length + 1) cap, .int .i64 0]) ∧ Rds w' (some ⟨b, 0, none⟩) (l ++ [apRd seed l s m r hs])))

/-! ### Walks of Append -/
set_option maxRecDepth 100000 in
set_option maxHeartbeats 4000000 in
theorem Append_11 (seed : Nat) (o : Option Addr) (cap : Nat) (l : List Rd) (s m r : Int) (w : World) (hs : seed < 18446744073709551616) (hr : Rds w o l) (hl : l.length ≤ 9223372036854775807) (hc0 : 0 ≤ chk seed l) :
    Calls Try.prog 12 #[.int .u64 (seed : Nat), .slice o l.length cap, .int .i64 s, .int .i64 m, .int .i64 r] w (AppOut seed l s m r hs w) := by
  have hE : apErr seed l s m r = 11 := by unfold apErr; rw [if_pos hc0]
  have HE := Lib.hid hE
  clear hE
  have HR := Lib.hid hr
  clear hr
  obtain ⟨Q, hQ⟩ : ∃ Q, AppOut seed l s m r hs w = Q := ⟨_, rfl⟩
  rw [hQ]
  have HQ := Lib.hid hQ
  clear hQ
  go_enter Try.func12, Try.ntmps12
  go_wp2_with fail
  refine (Check_any seed _ cap l _ hs (HR.out.later (below_alloc0 w _)) hl).mono ?_
  rintro e w1 ⟨rfl, hb1⟩
  have hcb : decide (0 ≤ chk seed l) = true := by simpa using hc0
  have HB := Lib.hid (below_step (below_alloc0 w _) hb1)
  clear hb1
  go_wp2
  rw [← HQ.out]
  refine ⟨?_, .inl ⟨by rw [HE.out]; decide, by rw [HE.out]; rfl⟩⟩
  exact HB.out

set_option maxRecDepth 100000 in
set_option maxHeartbeats 4000000 in
theorem Append_10 (seed : Nat) (o : Option Addr) (cap : Nat) (l : List Rd) (s m r : Int) (w : World) (hs : seed < 18446744073709551616) (hr : Rds w o l) (hl : l.length ≤ 9223372036854775807) (hc0 : ¬ 0 ≤ chk seed l) (h64 : l.length = 64) :
    Calls Try.prog 12 #[.int .u64 (seed : Nat), .slice o l.length cap, .int .i64 s, .int .i64 m, .int .i64 r] w (AppOut seed l s m r hs w) := by
  have hlen := (chk_len hc0)
  have e1 : IntKind.i64.wrap ((l.length : Int) + 1) = (l.length : Int) + 1 := IntWalk.i64_in _ (by omega)
  have hcb : decide (0 ≤ chk seed l) = false := by simpa using hc0
  have hE : apErr seed l s m r = 10 := by unfold apErr; rw [if_neg hc0, if_pos h64]
  obtain ⟨x, hx⟩ : ∃ x, newRd l s m r = x := ⟨_, rfl⟩
  have HXX := Lib.hid (show x.s = s ∧ x.n = (l.length : Int) + 1 ∧ x.m = m ∧ x.r = r ∧ x.k = 0 by subst hx; exact ⟨rfl, e1, rfl, rfl, rfl⟩)
  have HX := Lib.hid hx
  clear hx
  have HL := Lib.hid hlen
  clear hlen
  have h64b : ((l.length : Int) == 64) = true := by simp; omega
  clear h64 hc0
  have HE := Lib.hid hE
  clear hE
  have HR := Lib.hid hr
  clear hr
  obtain ⟨Q, hQ⟩ : ∃ Q, AppOut seed l s m r hs w = Q := ⟨_, rfl⟩
  rw [hQ]
  have HQ := Lib.hid hQ
  clear hQ
  go_enter Try.func12, Try.ntmps12
  go_wp2_with fail
  refine (Check_any seed _ cap l _ hs (HR.out.later (below_alloc0 w _)) hl).mono ?_
  rintro e w1 ⟨rfl, hb1⟩
  have HX1 := Lib.hid (show RdB w1 w.heap.size x from RdB.later (by have := RdB.new w x; obtain ⟨xs, xn, xm, xr, xk⟩ := HXX.out; rw [xs, xn, xm, xr, xk] at this; exact this) hb1)
  have HB := Lib.hid (below_step (below_alloc0 w _) hb1)
  have HS := Lib.hid (show w.heap.size < w1.heap.size from Nat.lt_of_lt_of_le (by rw [World.size_alloc]; omega) hb1.size)
  clear hb1
  go_wp2
  rw [← HQ.out]
  refine ⟨?_, .inl ⟨by rw [HE.out]; decide, by rw [HE.out]; rfl⟩⟩
  exact HB.out

set_option maxRecDepth 100000 in
set_option maxHeartbeats 4000000 in
theorem Append_1 (seed : Nat) (o : Option Addr) (cap : Nat) (l : List Rd) (s m r : Int) (w : World) (hs : seed < 18446744073709551616) (hr : Rds w o l) (hl : l.length ≤ 9223372036854775807) (hc0 : ¬ 0 ≤ chk seed l) (h64 : l.length ≠ 64) (hv : validR (newRd l s m r) = false) :
    Calls Try.prog 12 #[.int .u64 (seed : Nat), .slice o l.length cap, .int .i64 s, .int .i64 m, .int .i64 r] w (AppOut seed l s m r hs w) := by
  have hlen := (chk_len hc0)
  have e1 : IntKind.i64.wrap ((l.length : Int) + 1) = (l.length : Int) + 1 := IntWalk.i64_in _ (by omega)
  have hcb : decide (0 ≤ chk seed l) = false := by simpa using hc0
  have hE : apErr seed l s m r = 1 := by unfold apErr; rw [if_neg hc0, if_neg h64, if_pos hv]
  obtain ⟨x, hx⟩ : ∃ x, newRd l s m r = x := ⟨_, rfl⟩
  have HXX := Lib.hid (show x.s = s ∧ x.n = (l.length : Int) + 1 ∧ x.m = m ∧ x.r = r ∧ x.k = 0 by subst hx; exact ⟨rfl, e1, rfl, rfl, rfl⟩)
  have HX := Lib.hid hx
  clear hx
  have HL := Lib.hid hlen
  clear hlen
  rw [HX.out] at hv
  have h64b : ((l.length : Int) == 64) = false := by simp; omega
  clear h64 hc0
  have HE := Lib.hid hE
  clear hE
  have HR := Lib.hid hr
  clear hr
  obtain ⟨Q, hQ⟩ : ∃ Q, AppOut seed l s m r hs w = Q := ⟨_, rfl⟩
  rw [hQ]
  have HQ := Lib.hid hQ
  clear hQ
  go_enter Try.func12, Try.ntmps12
  go_wp2_with fail
  refine (Check_any seed _ cap l _ hs (HR.out.later (below_alloc0 w _)) hl).mono ?_
  rintro e w1 ⟨rfl, hb1⟩
  have HX1 := Lib.hid (show RdB w1 w.heap.size x from RdB.later (by have := RdB.new w x; obtain ⟨xs, xn, xm, xr, xk⟩ := HXX.out; rw [xs, xn, xm, xr, xk] at this; exact this) hb1)
  have HB := Lib.hid (below_step (below_alloc0 w _) hb1)
  have HS := Lib.hid (show w.heap.size < w1.heap.size from Nat.lt_of_lt_of_le (by rw [World.size_alloc]; omega) hb1.size)
  clear hb1
  obtain ⟨c0, c1, c2, c3, c4⟩ := HX1.out.cells
  go_wp2_with fail
  refine (Calls.mono (show Calls Try.prog 23 #[rdV x] w1 (Ret (.bool (validR x)) w1) from valid_any x w1) ?_)
  rintro e w2 ⟨rfl, hb2⟩
  clear c0 c1 c2 c3 c4
  have HX2 := Lib.hid (HX1.out.later hb2)
  have HB2 := Lib.hid (below_step HB.out hb2)
  have HS2 := Lib.hid (Nat.lt_of_lt_of_le HS.out hb2.size)
  clear HX1 HB HS hb2
  rw [hv]
  go_wp2
  rw [← HQ.out]
  refine ⟨?_, .inl ⟨by rw [HE.out]; decide, by rw [HE.out]; rfl⟩⟩
  exact HB2.out

set_option maxRecDepth 100000 in
set_option maxHeartbeats 4000000 in
theorem Append_12 (seed : Nat) (o : Option Addr) (cap : Nat) (l : List Rd) (s m r : Int) (w : World) (hs : seed < 18446744073709551616) (hr : Rds w o l) (hl : l.length ≤ 9223372036854775807) (hc0 : ¬ 0 ≤ chk seed l) (h64 : l.length ≠ 64) (hv : validR (newRd l s m r) = true) (hp : 0 < l.length) (hold : oldR (getR l (l.length - 1)) (newRd l s m r) = true) :
    Calls Try.prog 12 #[.int .u64 (seed : Nat), .slice o l.length cap, .int .i64 s, .int .i64 m, .int .i64 r] w (AppOut seed l s m r hs w) := by
  have hprev : prevAt l l.length = some (getR l (l.length - 1)) := by unfold prevAt; rw [if_neg (by omega), getR_some (by omega)]
  obtain ⟨b, off, rfl, hy⟩ := hr (l.length - 1) (by omega)
  obtain ⟨y, hyy⟩ : ∃ y, getR l (l.length - 1) = y := ⟨_, rfl⟩
  rw [hyy] at hy hprev
  rw [hyy] at hold
  have hlen := (chk_len hc0)
  have e1 : IntKind.i64.wrap ((l.length : Int) + 1) = (l.length : Int) + 1 := IntWalk.i64_in _ (by omega)
  have hcb : decide (0 ≤ chk seed l) = false := by simpa using hc0
  have hE : apErr seed l s m r = 12 := by unfold apErr; rw [if_neg hc0, if_neg h64, if_neg (by rw [hv]; decide)]; simp only [hprev]; rw [if_pos hold]
  obtain ⟨x, hx⟩ : ∃ x, newRd l s m r = x := ⟨_, rfl⟩
  have HXX := Lib.hid (show x.s = s ∧ x.n = (l.length : Int) + 1 ∧ x.m = m ∧ x.r = r ∧ x.k = 0 by subst hx; exact ⟨rfl, e1, rfl, rfl, rfl⟩)
  have HX := Lib.hid hx
  clear hx
  have HL := Lib.hid hlen
  clear hlen
  rw [HX.out] at hv
  rw [HX.out] at hold
  obtain ⟨k, hk⟩ : ∃ k : Nat, l.length - 1 = k := ⟨_, rfl⟩
  rw [hk] at hy
  have e2 : IntKind.i64.wrap ((l.length : Int) - 1) = (k : Int) := by rw [IntWalk.i64_in _ (by omega)]; omega
  have y1 : (0 : Int) ≤ (k : Int) := by omega
  have y2 : (k : Int) < (l.length : Int) := by omega
  have hpb : decide (0 < l.length) = true := by simpa using hp
  have HY := Lib.hid hy
  have HP := Lib.hid hprev
  have HZ := Lib.hid (And.intro e2 (And.intro y1 (And.intro y2 hpb)))
  clear hprev hk hyy
  clear hy
  clear e2 y1 y2 hpb hp
  have h64b : ((l.length : Int) == 64) = false := by simp; omega
  clear h64 hc0
  have HE := Lib.hid hE
  clear hE
  have HR := Lib.hid hr
  clear hr
  obtain ⟨Q, hQ⟩ : ∃ Q, AppOut seed l s m r hs w = Q := ⟨_, rfl⟩
  rw [hQ]
  have HQ := Lib.hid hQ
  clear hQ
  go_enter Try.func12, Try.ntmps12
  go_wp2_with fail
  refine (Check_any seed _ cap l _ hs (HR.out.later (below_alloc0 w _)) hl).mono ?_
  rintro e w1 ⟨rfl, hb1⟩
  have HX1 := Lib.hid (show RdB w1 w.heap.size x from RdB.later (by have := RdB.new w x; obtain ⟨xs, xn, xm, xr, xk⟩ := HXX.out; rw [xs, xn, xm, xr, xk] at this; exact this) hb1)
  have HB := Lib.hid (below_step (below_alloc0 w _) hb1)
  have HS := Lib.hid (show w.heap.size < w1.heap.size from Nat.lt_of_lt_of_le (by rw [World.size_alloc]; omega) hb1.size)
  clear hb1
  obtain ⟨c0, c1, c2, c3, c4⟩ := HX1.out.cells
  go_wp2_with fail
  refine (Calls.mono (show Calls Try.prog 23 #[rdV x] w1 (Ret (.bool (validR x)) w1) from valid_any x w1) ?_)
  rintro e w2 ⟨rfl, hb2⟩
  clear c0 c1 c2 c3 c4
  have HX2 := Lib.hid (HX1.out.later hb2)
  have HB2 := Lib.hid (below_step HB.out hb2)
  have HS2 := Lib.hid (Nat.lt_of_lt_of_le HS.out hb2.size)
  clear HX1 HB HS hb2
  rw [hv]
  obtain ⟨e2, y1, y2, hpb⟩ := HZ.out
  obtain ⟨c0, c1, c2, c3, c4⟩ := RdB.cells (show RdB (w2.alloc (.cells #[.int .i64 y.s, .int .i64 y.n, .int .i64 y.m, .int .i64 y.r, .int .u64 y.k] 25)) w.heap.size x from Blk.alloc HX2.out _)
  obtain ⟨g0, g1, g2, g3, g4⟩ := (RdB.new w2 y).cells
  obtain ⟨d0, d1, d2, d3, d4⟩ := HY.out.later HB2.out
  go_wp2_with fail
  refine (Calls.mono (show Calls Try.prog 24 #[rdV y, rdV x] (w2.alloc (.cells #[.int .i64 y.s, .int .i64 y.n, .int .i64 y.m, .int .i64 y.r, .int .u64 y.k] 25)) (Ret (.bool (oldR y x)) _) from isOld_any y x _) ?_)
  rintro e w3 ⟨rfl, hb3⟩
  clear c0 c1 c2 c3 c4 d0 d1 d2 d3 d4 g0 g1 g2 g3 g4
  have HY3 := Lib.hid ((RdB.new w2 y).later hb3)
  have hb3 := below_step (below_alloc0 w2 _) hb3
  have HX3 := Lib.hid (HX2.out.later hb3)
  have HB3 := Lib.hid (below_step HB2.out hb3)
  have HSS := Lib.hid (show w.heap.size < w2.heap.size from HS2.out)
  obtain ⟨gy, hgy⟩ : ∃ gy, w2.heap.size = gy := ⟨_, rfl⟩
  rw [hgy] at HY3 HSS ⊢
  clear HX2 HB2 HS2 hb3
  rw [hold]
  go_wp2
  rw [← HQ.out]
  refine ⟨?_, .inl ⟨by rw [HE.out]; decide, by rw [HE.out]; rfl⟩⟩
  exact HB3.out

set_option maxRecDepth 100000 in
set_option maxHeartbeats 4000000 in
theorem Append_6 (seed : Nat) (o : Option Addr) (cap : Nat) (l : List Rd) (s m r : Int) (w : World) (hs : seed < 18446744073709551616) (hr : Rds w o l) (hl : l.length ≤ 9223372036854775807) (hc0 : ¬ 0 ≤ chk seed l) (h64 : l.length ≠ 64) (hv : validR (newRd l s m r) = true) (hp : 0 < l.length) (hold : oldR (getR l (l.length - 1)) (newRd l s m r) = false) (hlat : laterR (getR l (l.length - 1)) (newRd l s m r) = true) :
    Calls Try.prog 12 #[.int .u64 (seed : Nat), .slice o l.length cap, .int .i64 s, .int .i64 m, .int .i64 r] w (AppOut seed l s m r hs w) := by
  have hprev : prevAt l l.length = some (getR l (l.length - 1)) := by unfold prevAt; rw [if_neg (by omega), getR_some (by omega)]
  obtain ⟨b, off, rfl, hy⟩ := hr (l.length - 1) (by omega)
  obtain ⟨y, hyy⟩ : ∃ y, getR l (l.length - 1) = y := ⟨_, rfl⟩
  rw [hyy] at hy hprev
  rw [hyy] at hold hlat
  have hlen := (chk_len hc0)
  have e1 : IntKind.i64.wrap ((l.length : Int) + 1) = (l.length : Int) + 1 := IntWalk.i64_in _ (by omega)
  have hcb : decide (0 ≤ chk seed l) = false := by simpa using hc0
  have hE : apErr seed l s m r = 6 := by unfold apErr; rw [if_neg hc0, if_neg h64, if_neg (by rw [hv]; decide)]; simp only [hprev]; rw [if_neg (by rw [hold]; decide), if_pos hlat]
  obtain ⟨x, hx⟩ : ∃ x, newRd l s m r = x := ⟨_, rfl⟩
  have HXX := Lib.hid (show x.s = s ∧ x.n = (l.length : Int) + 1 ∧ x.m = m ∧ x.r = r ∧ x.k = 0 by subst hx; exact ⟨rfl, e1, rfl, rfl, rfl⟩)
  have HX := Lib.hid hx
  clear hx
  have HL := Lib.hid hlen
  clear hlen
  rw [HX.out] at hv
  rw [HX.out] at hold hlat
  obtain ⟨k, hk⟩ : ∃ k : Nat, l.length - 1 = k := ⟨_, rfl⟩
  rw [hk] at hy
  have e2 : IntKind.i64.wrap ((l.length : Int) - 1) = (k : Int) := by rw [IntWalk.i64_in _ (by omega)]; omega
  have y1 : (0 : Int) ≤ (k : Int) := by omega
  have y2 : (k : Int) < (l.length : Int) := by omega
  have hpb : decide (0 < l.length) = true := by simpa using hp
  have HY := Lib.hid hy
  have HP := Lib.hid hprev
  have HZ := Lib.hid (And.intro e2 (And.intro y1 (And.intro y2 hpb)))
  clear hprev hk hyy
  clear hy
  clear e2 y1 y2 hpb hp
  have h64b : ((l.length : Int) == 64) = false := by simp; omega
  clear h64 hc0
  have HE := Lib.hid hE
  clear hE
  have HR := Lib.hid hr
  clear hr
  obtain ⟨Q, hQ⟩ : ∃ Q, AppOut seed l s m r hs w = Q := ⟨_, rfl⟩
  rw [hQ]
  have HQ := Lib.hid hQ
  clear hQ
  go_enter Try.func12, Try.ntmps12
  go_wp2_with fail
  refine (Check_any seed _ cap l _ hs (HR.out.later (below_alloc0 w _)) hl).mono ?_
  rintro e w1 ⟨rfl, hb1⟩
  have HX1 := Lib.hid (show RdB w1 w.heap.size x from RdB.later (by have := RdB.new w x; obtain ⟨xs, xn, xm, xr, xk⟩ := HXX.out; rw [xs, xn, xm, xr, xk] at this; exact this) hb1)
  have HB := Lib.hid (below_step (below_alloc0 w _) hb1)
  have HS := Lib.hid (show w.heap.size < w1.heap.size from Nat.lt_of_lt_of_le (by rw [World.size_alloc]; omega) hb1.size)
  clear hb1
  obtain ⟨c0, c1, c2, c3, c4⟩ := HX1.out.cells
  go_wp2_with fail
  refine (Calls.mono (show Calls Try.prog 23 #[rdV x] w1 (Ret (.bool (validR x)) w1) from valid_any x w1) ?_)
  rintro e w2 ⟨rfl, hb2⟩
  clear c0 c1 c2 c3 c4
  have HX2 := Lib.hid (HX1.out.later hb2)
  have HB2 := Lib.hid (below_step HB.out hb2)
  have HS2 := Lib.hid (Nat.lt_of_lt_of_le HS.out hb2.size)
  clear HX1 HB HS hb2
  rw [hv]
  obtain ⟨e2, y1, y2, hpb⟩ := HZ.out
  obtain ⟨c0, c1, c2, c3, c4⟩ := RdB.cells (show RdB (w2.alloc (.cells #[.int .i64 y.s, .int .i64 y.n, .int .i64 y.m, .int .i64 y.r, .int .u64 y.k] 25)) w.heap.size x from Blk.alloc HX2.out _)
  obtain ⟨g0, g1, g2, g3, g4⟩ := (RdB.new w2 y).cells
  obtain ⟨d0, d1, d2, d3, d4⟩ := HY.out.later HB2.out
  go_wp2_with fail
  refine (Calls.mono (show Calls Try.prog 24 #[rdV y, rdV x] (w2.alloc (.cells #[.int .i64 y.s, .int .i64 y.n, .int .i64 y.m, .int .i64 y.r, .int .u64 y.k] 25)) (Ret (.bool (oldR y x)) _) from isOld_any y x _) ?_)
  rintro e w3 ⟨rfl, hb3⟩
  clear c0 c1 c2 c3 c4 d0 d1 d2 d3 d4 g0 g1 g2 g3 g4
  have HY3 := Lib.hid ((RdB.new w2 y).later hb3)
  have hb3 := below_step (below_alloc0 w2 _) hb3
  have HX3 := Lib.hid (HX2.out.later hb3)
  have HB3 := Lib.hid (below_step HB2.out hb3)
  have HSS := Lib.hid (show w.heap.size < w2.heap.size from HS2.out)
  obtain ⟨gy, hgy⟩ : ∃ gy, w2.heap.size = gy := ⟨_, rfl⟩
  rw [hgy] at HY3 HSS ⊢
  clear HX2 HB2 HS2 hb3
  rw [hold]
  obtain ⟨c0, c1, c2, c3, c4⟩ := HX3.out.cells
  obtain ⟨d0, d1, d2, d3, d4⟩ := HY3.out.cells
  go_wp2_with fail
  refine (Calls.mono (show Calls Try.prog 25 #[rdV y, rdV x] w3 (Ret (.bool (laterR y x)) w3) from isLater_any y x _) ?_)
  rintro e w4 ⟨rfl, hb4⟩
  clear c0 c1 c2 c3 c4 d0 d1 d2 d3 d4
  have HY4 := Lib.hid (HY3.out.later hb4)
  have HX4 := Lib.hid (HX3.out.later hb4)
  have HB4 := Lib.hid (below_step HB3.out hb4)
  clear HX3 HB3 HY3 hb4
  rw [hlat]
  go_wp2
  rw [← HQ.out]
  refine ⟨?_, .inl ⟨by rw [HE.out]; decide, by rw [HE.out]; rfl⟩⟩
  exact HB4.out

set_option maxRecDepth 100000 in
set_option maxHeartbeats 4000000 in
theorem Append_0 (seed : Nat) (o : Option Addr) (cap : Nat) (l : List Rd) (s m r : Int) (w : World) (hs : seed < 18446744073709551616) (hr : Rds w o l) (hl : l.length ≤ 9223372036854775807) (hc0 : ¬ 0 ≤ chk seed l) (h64 : l.length ≠ 64) (hv : validR (newRd l s m r) = true) (hp : l.length = 0) :
    Calls Try.prog 12 #[.int .u64 (seed : Nat), .slice o l.length cap, .int .i64 s, .int .i64 m, .int .i64 r] w (AppOut seed l s m r hs w) := by
  have hprev : prevAt l l.length = none := by unfold prevAt; rw [if_pos hp]
  have hlen := (chk_len hc0)
  have e1 : IntKind.i64.wrap ((l.length : Int) + 1) = (l.length : Int) + 1 := IntWalk.i64_in _ (by omega)
  have hcb : decide (0 ≤ chk seed l) = false := by simpa using hc0
  have hE : apErr seed l s m r = 0 := by unfold apErr; rw [if_neg hc0, if_neg h64, if_neg (by rw [hv]; decide)]; simp only [hprev]
  obtain ⟨x, hx⟩ : ∃ x, newRd l s m r = x := ⟨_, rfl⟩
  have HXX := Lib.hid (show x.s = s ∧ x.n = (l.length : Int) + 1 ∧ x.m = m ∧ x.r = r ∧ x.k = 0 by subst hx; exact ⟨rfl, e1, rfl, rfl, rfl⟩)
  have HX := Lib.hid hx
  clear hx
  have HL := Lib.hid hlen
  clear hlen
  rw [HX.out] at hv
  have HST := Lib.hid (show stAt seed l l.length = seed by unfold stAt; rw [hprev])
  have hpb : decide (0 < l.length) = false := by simp [hp]
  clear hprev
  have h64b : ((l.length : Int) == 64) = false := by simp; omega
  clear h64 hc0
  clear hp
  have HE := Lib.hid hE
  clear hE
  have HR := Lib.hid hr
  clear hr
  obtain ⟨Q, hQ⟩ : ∃ Q, AppOut seed l s m r hs w = Q := ⟨_, rfl⟩
  rw [hQ]
  have HQ := Lib.hid hQ
  clear hQ
  go_enter Try.func12, Try.ntmps12
  go_wp2_with fail
  refine (Check_any seed _ cap l _ hs (HR.out.later (below_alloc0 w _)) hl).mono ?_
  rintro e w1 ⟨rfl, hb1⟩
  have HX1 := Lib.hid (show RdB w1 w.heap.size x from RdB.later (by have := RdB.new w x; obtain ⟨xs, xn, xm, xr, xk⟩ := HXX.out; rw [xs, xn, xm, xr, xk] at this; exact this) hb1)
  have HB := Lib.hid (below_step (below_alloc0 w _) hb1)
  have HS := Lib.hid (show w.heap.size < w1.heap.size from Nat.lt_of_lt_of_le (by rw [World.size_alloc]; omega) hb1.size)
  clear hb1
  obtain ⟨c0, c1, c2, c3, c4⟩ := HX1.out.cells
  go_wp2_with fail
  refine (Calls.mono (show Calls Try.prog 23 #[rdV x] w1 (Ret (.bool (validR x)) w1) from valid_any x w1) ?_)
  rintro e w2 ⟨rfl, hb2⟩
  clear c0 c1 c2 c3 c4
  have HX2 := Lib.hid (HX1.out.later hb2)
  have HB2 := Lib.hid (below_step HB.out hb2)
  have HS2 := Lib.hid (Nat.lt_of_lt_of_le HS.out hb2.size)
  clear HX1 HB HS hb2
  rw [hv]
  obtain ⟨c0, c1, c2, c3, c4⟩ := HX2.out.cells
  go_wp2_with fail
  refine (Calls.mono (show Calls Try.prog 16 #[.int .u64 (seed : Nat), rdV x] w2 (Ret (.int .u64 (link seed x : Nat)) w2) from Link_any seed x hs w2) ?_)
  rintro e w5 ⟨rfl, hb5⟩
  have HX5 := Lib.hid (HX2.out.later hb5)
  have HB5 := Lib.hid (below_step HB2.out hb5)
  clear c0 c1 c2 c3 c4 
  clear hb5
  obtain ⟨lk, hlk⟩ : ∃ lk, link seed x = lk := ⟨_, rfl⟩
  rw [hlk]
  obtain ⟨z, hz⟩ : ∃ z, apRd seed l s m r hs = z := ⟨_, rfl⟩
  have HZZ := Lib.hid hz
  have HXZ := Lib.hid (show RdB (w5.setCell ⟨w.heap.size, 4, none⟩ (.int .u64 (lk : Nat))) w.heap.size z from by
    obtain ⟨xs, xn, xm, xr, xk⟩ := HXX.out
    have zs : z.s = x.s ∧ z.n = x.n ∧ z.m = x.m ∧ z.r = x.r ∧ z.k = lk := by
      subst hz
      refine ⟨xs.symm, xn.symm, xm.symm, xr.symm, ?_⟩
      show link (stAt seed l l.length) (newRd l s m r) = lk
      rw [HX.out, ← hlk, HST.out]
    obtain ⟨z1, z2, z3, z4, z5⟩ := zs
    have h := Blk.set HX5.out 4 (.int .u64 (lk : Nat))
    unfold RdB
    rw [z1, z2, z3, z4, z5]
    exact h)
  have HW := Lib.hid (show Below w.heap.size w (w5.setCell ⟨w.heap.size, 4, none⟩ (.int .u64 (lk : Nat))) from HB5.out.setCell (Nat.le_refl _) _)
  have HSZ := Lib.hid (show w.heap.size < w5.heap.size from HX5.out.lt)
  obtain ⟨L, hL, hmk⟩ := make_rds l.length (by have := HL.out; omega)
  have HLL := Lib.hid hL
  have c4 := HX5.out.cells.2.2.2.2
  have f4 := Blk.frozen HX5.out 4
  clear hz hL hlk
  go_wp2_with fail
  clear c4 f4 hmk
  obtain ⟨ii, zz, h1, h2, h3, h4, h5⟩ := elemRd.info
  have HI1 := Lib.hid h1
  have HI3 := Lib.hid h3
  clear h1 h2 h3 h4 h5
  obtain ⟨B, hB⟩ : ∃ B, w5.heap.size = B := ⟨_, rfl⟩
  rw [hB] at HSZ
  have hBB := Lib.hid hB
  have hB2 : (w5.setCell ⟨w.heap.size, 4, none⟩ (.int .u64 (lk : Nat))).heap.size = B := by rw [World.size_setCell]; exact hB
  obtain ⟨w6, hw6⟩ : ∃ w6, w5.setCell ⟨w.heap.size, 4, none⟩ (.int .u64 (lk : Nat)) = w6 := ⟨_, rfl⟩
  rw [hw6] at HXZ HW hB2 ⊢
  try rw [hB]
  have HB2x := Lib.hid hB2
  clear hB hB2 hw6
  refine wp_region_puts 5 [(62, .slice (some ⟨B, 0, none⟩) 0 (l.length + 1)), (63, .slice o l.length cap), (64, .slice (some ⟨B, 0, none⟩) l.length (l.length + 1)), (65, rdV z), (66, .slice (some ⟨B + 1, 0, none⟩) 1 1)] (ApI w w.heap.size B (B + 1) l z) mixed (by kernel_rfl) (by kernel_rfl) ?_ ?_ ?_
  · refine ⟨(below_step HW.out (below_alloc0 _ _)).drew, (Blk.alloc HXZ.out _).drew, ⟨L, ?_, HLL.out, fun h => by simp at h⟩, fun _ => ?_, fun h => by simp at h⟩
    · have := Arr.new w6 25 L
      rw [HB2x.out] at this
      exact this
    · show (w6.alloc _).heap.size = B + 1
      rw [World.size_alloc, HB2x.out]
  · intro i op hi ho
    simp only [putAll, List.foldl, Act.put, List.setIfInBounds_toArray, List.set_cons_zero, List.set_cons_succ]
    rcases (show i = 0 ∨ i = 1 ∨ i = 2 ∨ i = 3 ∨ i = 4 by omega) with rfl | rfl | rfl | rfl | rfl
    · obtain rfl := Option.some.inj ho
      exact settledS_mk rfl _ rfl (fun listed W _ _ hI => gives_of rfl (hI.skip (by decide) (by decide)))
    · obtain rfl := Option.some.inj ho
      exact settledS_mk rfl _ rfl (fun listed W _ _ hI => gives_of rfl (hI.skip (by decide) (by decide)))
    · obtain rfl := Option.some.inj ho
      refine settledS_mk rfl (.slice (some ⟨B, 0, none⟩) l.length (l.length + 1)) rfl (fun listed W _ _ hI => gives_of ?_ (hI.copied (by have := HSZ.out; omega) (by omega) (by have := HSZ.out; omega)))
      have hrun := hI.append (cap := cap) HR.out 23
      simp [execOp, resolve, invoke, builtin, Act.eval, hrun, Result.andThen]
    · obtain rfl := Option.some.inj ho
      refine settledS_mk rfl (rdV z) rfl (fun listed W _ _ hI => gives_of ?_ (hI.skip (by decide) (by decide)))
      obtain ⟨c0, c1, c2, c3, c4⟩ := hI.gx.cells
      go_simp
      try with_reducible rfl
    · obtain rfl := Option.some.inj ho
      refine settledS_mk rfl (.slice (some ⟨B + 1, 0, none⟩) 1 1) rfl (fun listed W _ hun hI => gives_of ?_ (hI.built hun).2)
      have hS := (hI.built hun).1
      go_simp
      rfl
  · intro W hI
    simp only [putAll, List.foldl, Act.put, List.setIfInBounds_toArray, List.set_cons_zero, List.set_cons_succ, List.drop_succ_cons, List.drop_zero]
    have HI := Lib.hid hI
    clear hI
    refine wpList_append_room (by rfl) (.tmp 64) (.tmp 66) 23 (by rfl) 25 ii 5 (by kernel_rfl) HI1.out HI3.out B 0 l.length (l.length + 1) (by rfl) ⟨B + 1, 0, none⟩ 1 1 (rdC z) (by rfl) rfl HI.out.news (rdC_one z) (Nat.le_refl _) HI.out.spare ?_
    obtain ⟨W2, hW2⟩ : ∃ W2, W.setCells B (0 + l.length * 5) (rdC z) = W2 := ⟨_, rfl⟩
    rw [hW2]
    have HW2 := Lib.hid hW2
    clear hW2
    simp only [Act.put, List.setIfInBounds_toArray, List.set_cons_zero, List.set_cons_succ]
    go_wp2
    rw [← HQ.out]
    refine ⟨?_, .inr ⟨HE.out, B, l.length + 1, by have := HSZ.out; omega, Nat.le_refl _, rfl, ?_⟩⟩
    · rw [← HW2.out]
      exact below_setCells HI.out.bel (by have := HSZ.out; omega) _ _
    rw [← HW2.out, HZZ.out]
    exact HI.out.done

set_option maxRecDepth 100000 in
set_option maxHeartbeats 4000000 in
theorem Append_0s (seed : Nat) (o : Option Addr) (cap : Nat) (l : List Rd) (s m r : Int) (w : World) (hs : seed < 18446744073709551616) (hr : Rds w o l) (hl : l.length ≤ 9223372036854775807) (hc0 : ¬ 0 ≤ chk seed l) (h64 : l.length ≠ 64) (hv : validR (newRd l s m r) = true) (hp : 0 < l.length) (hold : oldR (getR l (l.length - 1)) (newRd l s m r) = false) (hlat : laterR (getR l (l.length - 1)) (newRd l s m r) = false) :
    Calls Try.prog 12 #[.int .u64 (seed : Nat), .slice o l.length cap, .int .i64 s, .int .i64 m, .int .i64 r] w (AppOut seed l s m r hs w) := by
  have hprev : prevAt l l.length = some (getR l (l.length - 1)) := by unfold prevAt; rw [if_neg (by omega), getR_some (by omega)]
  obtain ⟨b, off, rfl, hy⟩ := hr (l.length - 1) (by omega)
  obtain ⟨y, hyy⟩ : ∃ y, getR l (l.length - 1) = y := ⟨_, rfl⟩
  rw [hyy] at hy hprev
  rw [hyy] at hold hlat
  have hlen := (chk_len hc0)
  have e1 : IntKind.i64.wrap ((l.length : Int) + 1) = (l.length : Int) + 1 := IntWalk.i64_in _ (by omega)
  have hcb : decide (0 ≤ chk seed l) = false := by simpa using hc0
  have hE : apErr seed l s m r = 0 := by unfold apErr; rw [if_neg hc0, if_neg h64, if_neg (by rw [hv]; decide)]; simp only [hprev]; rw [if_neg (by rw [hold]; decide), if_neg (by rw [hlat]; decide)]
  obtain ⟨x, hx⟩ : ∃ x, newRd l s m r = x := ⟨_, rfl⟩
  have HXX := Lib.hid (show x.s = s ∧ x.n = (l.length : Int) + 1 ∧ x.m = m ∧ x.r = r ∧ x.k = 0 by subst hx; exact ⟨rfl, e1, rfl, rfl, rfl⟩)
  have HX := Lib.hid hx
  clear hx
  have HL := Lib.hid hlen
  clear hlen
  rw [HX.out] at hv
  rw [HX.out] at hold hlat
  obtain ⟨k, hk⟩ : ∃ k : Nat, l.length - 1 = k := ⟨_, rfl⟩
  rw [hk] at hy
  have e2 : IntKind.i64.wrap ((l.length : Int) - 1) = (k : Int) := by rw [IntWalk.i64_in _ (by omega)]; omega
  have y1 : (0 : Int) ≤ (k : Int) := by omega
  have y2 : (k : Int) < (l.length : Int) := by omega
  have hpb : decide (0 < l.length) = true := by simpa using hp
  have HY := Lib.hid hy
  have HP := Lib.hid hprev
  have HZ := Lib.hid (And.intro e2 (And.intro y1 (And.intro y2 hpb)))
  clear hprev hk hyy
  clear hy
  clear e2 y1 y2 hpb hp
  have HST := Lib.hid (show stAt seed l l.length = y.k by unfold stAt; rw [HP.out])
  have h64b : ((l.length : Int) == 64) = false := by simp; omega
  clear h64 hc0
  have HE := Lib.hid hE
  clear hE
  have HR := Lib.hid hr
  clear hr
  obtain ⟨Q, hQ⟩ : ∃ Q, AppOut seed l s m r hs w = Q := ⟨_, rfl⟩
  rw [hQ]
  have HQ := Lib.hid hQ
  clear hQ
  go_enter Try.func12, Try.ntmps12
  go_wp2_with fail
  refine (Check_any seed _ cap l _ hs (HR.out.later (below_alloc0 w _)) hl).mono ?_
  rintro e w1 ⟨rfl, hb1⟩
  have HX1 := Lib.hid (show RdB w1 w.heap.size x from RdB.later (by have := RdB.new w x; obtain ⟨xs, xn, xm, xr, xk⟩ := HXX.out; rw [xs, xn, xm, xr, xk] at this; exact this) hb1)
  have HB := Lib.hid (below_step (below_alloc0 w _) hb1)
  have HS := Lib.hid (show w.heap.size < w1.heap.size from Nat.lt_of_lt_of_le (by rw [World.size_alloc]; omega) hb1.size)
  clear hb1
  obtain ⟨c0, c1, c2, c3, c4⟩ := HX1.out.cells
  go_wp2_with fail
  refine (Calls.mono (show Calls Try.prog 23 #[rdV x] w1 (Ret (.bool (validR x)) w1) from valid_any x w1) ?_)
  rintro e w2 ⟨rfl, hb2⟩
  clear c0 c1 c2 c3 c4
  have HX2 := Lib.hid (HX1.out.later hb2)
  have HB2 := Lib.hid (below_step HB.out hb2)
  have HS2 := Lib.hid (Nat.lt_of_lt_of_le HS.out hb2.size)
  clear HX1 HB HS hb2
  rw [hv]
  obtain ⟨e2, y1, y2, hpb⟩ := HZ.out
  obtain ⟨c0, c1, c2, c3, c4⟩ := RdB.cells (show RdB (w2.alloc (.cells #[.int .i64 y.s, .int .i64 y.n, .int .i64 y.m, .int .i64 y.r, .int .u64 y.k] 25)) w.heap.size x from Blk.alloc HX2.out _)
  obtain ⟨g0, g1, g2, g3, g4⟩ := (RdB.new w2 y).cells
  obtain ⟨d0, d1, d2, d3, d4⟩ := HY.out.later HB2.out
  go_wp2_with fail
  refine (Calls.mono (show Calls Try.prog 24 #[rdV y, rdV x] (w2.alloc (.cells #[.int .i64 y.s, .int .i64 y.n, .int .i64 y.m, .int .i64 y.r, .int .u64 y.k] 25)) (Ret (.bool (oldR y x)) _) from isOld_any y x _) ?_)
  rintro e w3 ⟨rfl, hb3⟩
  clear c0 c1 c2 c3 c4 d0 d1 d2 d3 d4 g0 g1 g2 g3 g4
  have HY3 := Lib.hid ((RdB.new w2 y).later hb3)
  have hb3 := below_step (below_alloc0 w2 _) hb3
  have HX3 := Lib.hid (HX2.out.later hb3)
  have HB3 := Lib.hid (below_step HB2.out hb3)
  have HSS := Lib.hid (show w.heap.size < w2.heap.size from HS2.out)
  obtain ⟨gy, hgy⟩ : ∃ gy, w2.heap.size = gy := ⟨_, rfl⟩
  rw [hgy] at HY3 HSS ⊢
  clear HX2 HB2 HS2 hb3
  rw [hold]
  obtain ⟨c0, c1, c2, c3, c4⟩ := HX3.out.cells
  obtain ⟨d0, d1, d2, d3, d4⟩ := HY3.out.cells
  go_wp2_with fail
  refine (Calls.mono (show Calls Try.prog 25 #[rdV y, rdV x] w3 (Ret (.bool (laterR y x)) w3) from isLater_any y x _) ?_)
  rintro e w4 ⟨rfl, hb4⟩
  clear c0 c1 c2 c3 c4 d0 d1 d2 d3 d4
  have HY4 := Lib.hid (HY3.out.later hb4)
  have HX4 := Lib.hid (HX3.out.later hb4)
  have HB4 := Lib.hid (below_step HB3.out hb4)
  clear HX3 HB3 HY3 hb4
  rw [hlat]
  obtain ⟨c0, c1, c2, c3, c4⟩ := HX4.out.cells
  have d4 := HY4.out.cells.2.2.2.2
  go_wp2_with fail
  refine (Calls.mono (show Calls Try.prog 16 #[.int .u64 (y.k : Nat), rdV x] w4 (Ret (.int .u64 (link y.k x : Nat)) w4) from Link_any y.k x y.hk w4) ?_)
  rintro e w5 ⟨rfl, hb5⟩
  have HX5 := Lib.hid (HX4.out.later hb5)
  have HB5 := Lib.hid (below_step HB4.out hb5)
  clear c0 c1 c2 c3 c4 d4
  clear hb5
  obtain ⟨lk, hlk⟩ : ∃ lk, link y.k x = lk := ⟨_, rfl⟩
  rw [hlk]
  obtain ⟨z, hz⟩ : ∃ z, apRd seed l s m r hs = z := ⟨_, rfl⟩
  have HZZ := Lib.hid hz
  have HXZ := Lib.hid (show RdB (w5.setCell ⟨w.heap.size, 4, none⟩ (.int .u64 (lk : Nat))) w.heap.size z from by
    obtain ⟨xs, xn, xm, xr, xk⟩ := HXX.out
    have zs : z.s = x.s ∧ z.n = x.n ∧ z.m = x.m ∧ z.r = x.r ∧ z.k = lk := by
      subst hz
      refine ⟨xs.symm, xn.symm, xm.symm, xr.symm, ?_⟩
      show link (stAt seed l l.length) (newRd l s m r) = lk
      rw [HX.out, ← hlk, HST.out]
    obtain ⟨z1, z2, z3, z4, z5⟩ := zs
    have h := Blk.set HX5.out 4 (.int .u64 (lk : Nat))
    unfold RdB
    rw [z1, z2, z3, z4, z5]
    exact h)
  have HW := Lib.hid (show Below w.heap.size w (w5.setCell ⟨w.heap.size, 4, none⟩ (.int .u64 (lk : Nat))) from HB5.out.setCell (Nat.le_refl _) _)
  have HSZ := Lib.hid (show w.heap.size < w5.heap.size from HX5.out.lt)
  obtain ⟨L, hL, hmk⟩ := make_rds l.length (by have := HL.out; omega)
  have HLL := Lib.hid hL
  have c4 := HX5.out.cells.2.2.2.2
  have f4 := Blk.frozen HX5.out 4
  clear hz hL hlk
  go_wp2_with fail
  clear c4 f4 hmk
  obtain ⟨ii, zz, h1, h2, h3, h4, h5⟩ := elemRd.info
  have HI1 := Lib.hid h1
  have HI3 := Lib.hid h3
  clear h1 h2 h3 h4 h5
  obtain ⟨B, hB⟩ : ∃ B, w5.heap.size = B := ⟨_, rfl⟩
  rw [hB] at HSZ
  have hBB := Lib.hid hB
  have hB2 : (w5.setCell ⟨w.heap.size, 4, none⟩ (.int .u64 (lk : Nat))).heap.size = B := by rw [World.size_setCell]; exact hB
  obtain ⟨w6, hw6⟩ : ∃ w6, w5.setCell ⟨w.heap.size, 4, none⟩ (.int .u64 (lk : Nat)) = w6 := ⟨_, rfl⟩
  rw [hw6] at HXZ HW hB2 ⊢
  try rw [hB]
  have HB2x := Lib.hid hB2
  clear hB hB2 hw6
  refine wp_region_puts 5 [(62, .slice (some ⟨B, 0, none⟩) 0 (l.length + 1)), (63, .slice (some ⟨b, off, none⟩) l.length cap), (64, .slice (some ⟨B, 0, none⟩) l.length (l.length + 1)), (65, rdV z), (66, .slice (some ⟨B + 1, 0, none⟩) 1 1)] (ApI w w.heap.size B (B + 1) l z) mixed (by kernel_rfl) (by kernel_rfl) ?_ ?_ ?_
  · refine ⟨(below_step HW.out (below_alloc0 _ _)).drew, (Blk.alloc HXZ.out _).drew, ⟨L, ?_, HLL.out, fun h => by simp at h⟩, fun _ => ?_, fun h => by simp at h⟩
    · have := Arr.new w6 25 L
      rw [HB2x.out] at this
      exact this
    · show (w6.alloc _).heap.size = B + 1
      rw [World.size_alloc, HB2x.out]
  · intro i op hi ho
    simp only [putAll, List.foldl, Act.put, List.setIfInBounds_toArray, List.set_cons_zero, List.set_cons_succ]
    rcases (show i = 0 ∨ i = 1 ∨ i = 2 ∨ i = 3 ∨ i = 4 by omega) with rfl | rfl | rfl | rfl | rfl
    · obtain rfl := Option.some.inj ho
      exact settledS_mk rfl _ rfl (fun listed W _ _ hI => gives_of rfl (hI.skip (by decide) (by decide)))
    · obtain rfl := Option.some.inj ho
      exact settledS_mk rfl _ rfl (fun listed W _ _ hI => gives_of rfl (hI.skip (by decide) (by decide)))
    · obtain rfl := Option.some.inj ho
      refine settledS_mk rfl (.slice (some ⟨B, 0, none⟩) l.length (l.length + 1)) rfl (fun listed W _ _ hI => gives_of ?_ (hI.copied (by have := HSZ.out; omega) (by omega) (by have := HSZ.out; omega)))
      have hrun := hI.append (cap := cap) HR.out 23
      simp [execOp, resolve, invoke, builtin, Act.eval, hrun, Result.andThen]
    · obtain rfl := Option.some.inj ho
      refine settledS_mk rfl (rdV z) rfl (fun listed W _ _ hI => gives_of ?_ (hI.skip (by decide) (by decide)))
      obtain ⟨c0, c1, c2, c3, c4⟩ := hI.gx.cells
      go_simp
      try with_reducible rfl
    · obtain rfl := Option.some.inj ho
      refine settledS_mk rfl (.slice (some ⟨B + 1, 0, none⟩) 1 1) rfl (fun listed W _ hun hI => gives_of ?_ (hI.built hun).2)
      have hS := (hI.built hun).1
      go_simp
      rfl
  · intro W hI
    simp only [putAll, List.foldl, Act.put, List.setIfInBounds_toArray, List.set_cons_zero, List.set_cons_succ, List.drop_succ_cons, List.drop_zero]
    have HI := Lib.hid hI
    clear hI
    refine wpList_append_room (by rfl) (.tmp 64) (.tmp 66) 23 (by rfl) 25 ii 5 (by kernel_rfl) HI1.out HI3.out B 0 l.length (l.length + 1) (by rfl) ⟨B + 1, 0, none⟩ 1 1 (rdC z) (by rfl) rfl HI.out.news (rdC_one z) (Nat.le_refl _) HI.out.spare ?_
    obtain ⟨W2, hW2⟩ : ∃ W2, W.setCells B (0 + l.length * 5) (rdC z) = W2 := ⟨_, rfl⟩
    rw [hW2]
    have HW2 := Lib.hid hW2
    clear hW2
    simp only [Act.put, List.setIfInBounds_toArray, List.set_cons_zero, List.set_cons_succ]
    go_wp2
    rw [← HQ.out]
    refine ⟨?_, .inr ⟨HE.out, B, l.length + 1, by have := HSZ.out; omega, Nat.le_refl _, rfl, ?_⟩⟩
    · rw [← HW2.out]
      exact below_setCells HI.out.bel (by have := HSZ.out; omega) _ _
    rw [← HW2.out, HZZ.out]
    exact HI.out.done

theorem Append_any (seed : Nat) (o : Option Addr) (cap : Nat) (l : List Rd) (s m r : Int) (w : World) (hs : seed < 18446744073709551616) (hr : Rds w o l) (hl : l.length ≤ 9223372036854775807) :
    Calls Try.prog 12 #[.int .u64 (seed : Nat), .slice o l.length cap, .int .i64 s, .int .i64 m, .int .i64 r] w (AppOut seed l s m r hs w) := by
  by_cases hc0 : 0 ≤ chk seed l
  · exact Append_11 seed o cap l s m r w hs hr hl hc0
  by_cases h64 : l.length = 64
  · exact Append_10 seed o cap l s m r w hs hr hl hc0 h64
  cases hv : validR (newRd l s m r) with
  | false => exact Append_1 seed o cap l s m r w hs hr hl hc0 h64 hv
  | true =>
    by_cases hp : l.length = 0
    · exact Append_0 seed o cap l s m r w hs hr hl hc0 h64 hv hp
    cases hold : oldR (getR l (l.length - 1)) (newRd l s m r) with
    | true => exact Append_12 seed o cap l s m r w hs hr hl hc0 h64 hv (by omega) hold
    | false =>
      cases hlat : laterR (getR l (l.length - 1)) (newRd l s m r) with
      | true => exact Append_6 seed o cap l s m r w hs hr hl hc0 h64 hv (by omega) hold hlat
      | false => exact Append_0s seed o cap l s m r w hs hr hl hc0 h64 hv (by omega) hold hlat

end Go.Proofs.Ytckbooccgdddbaa
