/- Package flow: newNetwork. -/
import Derived.Test.YthgkfdhkmkbioaaFg21
namespace Go.Proofs.Ythgkfdhkmkbioaa
open Go.RowKit
attribute [local go_sem] Oper.semAt_some

/-- The numbers of the edges at a node, of the first k. -/
def incK (E : List Ed) (v k : Nat) : List Nat := (List.range k).filter fun i => (getE E i).f == v || (getE E i).t == v
theorem incK_all (E : List Ed) (v : Nat) : incK E v E.length = incL E v := rfl
theorem incK_succ (E : List Ed) (v k : Nat) : incK E v (k + 1) = if (getE E k).f = v ∨ (getE E k).t = v then incK E v k ++ [k] else incK E v k := by
  unfold incK
  rw [List.range_succ, List.filter_append]
  by_cases h : (getE E k).f = v ∨ (getE E k).t = v
  · rw [if_pos h, List.filter_cons_of_pos (by simpa using h)]; rfl
  · rw [if_neg h, List.filter_cons_of_neg (by simpa using h)]; simp
theorem incK_le (E : List Ed) (v k : Nat) : (incK E v k).length ≤ k := by
  unfold incK
  refine Nat.le_trans (List.length_filter_le _ _) ?_
  rw [List.length_range]
  exact Nat.le_refl _
def upd (L : Nat → List Nat) (u i : Nat) : Nat → List Nat := fun v => if v = u then L v ++ [i] else L v
theorem upd_one {E : List Ed} {k : Nat} (h : (getE E k).t = (getE E k).f) : upd (fun v => incK E v k) (getE E k).f k = fun v => incK E v (k + 1) := by
  funext v
  rw [incK_succ, h]
  unfold upd
  by_cases e : v = (getE E k).f
  · rw [if_pos e, if_pos (.inl e.symm)]
  · rw [if_neg e, if_neg (fun h => h.elim (fun h => e h.symm) (fun h => e h.symm))]
theorem upd_two {E : List Ed} {k : Nat} (h : (getE E k).t ≠ (getE E k).f) : upd (upd (fun v => incK E v k) (getE E k).f k) (getE E k).t k = fun v => incK E v (k + 1) := by
  funext v
  rw [incK_succ]
  show (if v = (getE E k).t then (if v = (getE E k).f then incK E v k ++ [k] else incK E v k) ++ [k] else (if v = (getE E k).f then incK E v k ++ [k] else incK E v k)) = _
  by_cases e2 : v = (getE E k).t
  · rw [if_pos e2, if_neg (fun e => h (e2.symm.trans e)), if_pos (.inr e2.symm)]
  · rw [if_neg e2]
    by_cases e : v = (getE E k).f
    · rw [if_pos e, if_pos (.inl e.symm)]
    · rw [if_neg e, if_neg (fun h => h.elim (fun h => e h.symm) (fun h => e2 h.symm))]
/-- The cells of a row of slices. -/
def rowsC (rv : Nat → Value) (N : Nat) : Array Value := ((List.range N).map rv).toArray
theorem rowsC_get {rv : Nat → Value} {N v : Nat} (h : v < N) : (rowsC rv N)[v]? = some (rv v) := by simp [rowsC, h]
theorem rowsC_set (rv : Nat → Value) (N u : Nat) (x : Value) : (rowsC rv N).setIfInBounds u x = rowsC (fun v => if v = u then x else rv v) N := by
  apply Array.ext
  · simp [rowsC]
  · intro i h1 h2
    have hi : i < N := by simpa [rowsC] using h1
    by_cases e : i = u
    · subst e; simp [rowsC]
    · simp [rowsC, e, Ne.symm e]
theorem made_rows (n : Nat) : madeCells #[Value.slice none 0 0] n = rowsC (fun _ => .slice none 0 0) n := by
  apply Array.ext
  · simp [madeCells, rowsC]
  · intro i h1 h2
    simp [madeCells, rowsC, Nat.mod_one]
theorem made_intsN (n : Nat) : madeCells #[Value.int .i64 0] n = intsC (List.replicate n 0) := by
  rw [← intsC_zero]
  apply Array.ext
  · simp [madeCells]
  · intro i h1 h2
    simp [madeCells, Nat.mod_one]
/-- A network while it is made: L lists the edges at each node. -/
structure NetI (w wr : World) (N : Nat) (EL : Nat) (NB FB AB : Nat) (eo : Option Addr) (ec : Nat) (L : Nat → List Nat) (rv : Nat → Value) : Prop where
  bel : Below w.heap.size w wr
  nb : Blk wr NB 86 #[.int .i64 (N : Nat), .slice eo EL ec, .slice (some ⟨FB, 0, none⟩) EL EL, .slice (some ⟨AB, 0, none⟩) N N]
  fb : Blk wr FB 3 (intsC (List.replicate EL 0))
  ab : Blk wr AB 23 (rowsC rv N)
  own : ∀ v, v < N → wr.ownsRow w.heap.size 3 1 (rv v) (L v).length (intsV (natI (L v)))
  dis : ∀ u v, u < N → v < N → u ≠ v → ∀ b, (rv u).ownBlock = some b → (rv v).ownBlock ≠ some b
  nfb : ∀ v, v < N → (rv v).ownBlock ≠ some FB
  low : w.heap.size ≤ NB ∧ w.heap.size ≤ FB ∧ w.heap.size ≤ AB
theorem NetI.later {w wr w' : World} {N EL NB FB AB : Nat} {eo : Option Addr} {ec : Nat} {L : Nat → List Nat} {rv : Nat → Value} (h : NetI w wr N EL NB FB AB eo ec L rv) (hb : Below wr.heap.size wr w') : NetI w w' N EL NB FB AB eo ec L rv :=
  ⟨below_step h.bel hb, h.nb.later hb, h.fb.later hb, h.ab.later hb, fun v hv => ownsRow_later (h.own v hv) hb, h.dis, h.nfb, h.low⟩
theorem NetI.zero {w wr : World} {N EL NB FB AB : Nat} {E : List Ed} {eo : Option Addr} {ec : Nat} (hb : Below w.heap.size w wr) (nb : Blk wr NB 86 #[.int .i64 (N : Nat), .slice eo EL ec, .slice (some ⟨FB, 0, none⟩) EL EL, .slice (some ⟨AB, 0, none⟩) N N]) (fb : Blk wr FB 3 (intsC (List.replicate EL 0))) (ab : Blk wr AB 23 (rowsC (fun _ => .slice none 0 0) N)) (low : w.heap.size ≤ NB ∧ w.heap.size ≤ FB ∧ w.heap.size ≤ AB) : NetI w wr N EL NB FB AB eo ec (fun v => incK E v 0) (fun _ => .slice none 0 0) :=
  ⟨hb, nb, fb, ab, fun _ _ => World.ownsRow_nil .., fun _ _ _ _ _ _ h => (by cases h), fun _ _ h => (by cases h), low⟩
theorem meas_lt {k n : Nat} (h : k < n) : n - (intOf (.int .i64 ((k : Int) + 1))).toNat < n - (intOf (.int .i64 (k : Int))).toNat := by simp [intOf]; omega
/-- One number more at a node. -/
theorem NetI.push {w wr : World} {N EL NB FB AB : Nat} {eo : Option Addr} {ec : Nat} {L : Nat → List Nat} {rv : Nat → Value} (h : NetI w wr N EL NB FB AB eo ec L rv) {u i : Nat} (hu : u < N) (hl : (L u).length ≤ 1000) (ty : TypeId) :
    ∃ v' w', (Builtin.append_ #[23, 23] ty #[rv u, .slice (some ⟨wr.heap.size, 0, none⟩) 1 1]).run Try.prog (wr.alloc (.cells #[.int .i64 (i : Nat)] 3)) = .ok v' w' ∧ wr.heap.size ≤ w'.heap.size ∧
      (∀ B t cs, Blk wr B t cs → t ≠ 3 → Blk w' B t cs) ∧ NetI w (w'.setCell ⟨AB, u, none⟩ v') N EL NB FB AB eo ec (upd L u i) (fun v => if v = u then v' else rv v) := by
  obtain ⟨ii, z, hi, hz, h2, h3, h4⟩ := elemI.info
  have hsz := h.bel.size
  obtain ⟨v', w', hr, hown, hgrow, _, hat⟩ := run_append_own_at (P := Try.prog) (wr.alloc (.cells #[.int .i64 (i : Nat)] 3)) w.heap.size 23 ty 3 ii z 1 8 elemI.under hi hz h2 h3 h4 elemI.pos (rv u) (L u).length (intsV (natI (L u))) ((h.own u hu).alloc _) ⟨wr.heap.size, 0, none⟩ 1 1 [.int .i64 (i : Nat)] rfl
    (by
      intro j x hj
      have := (Blk.new wr 3 #[.int .i64 (i : Nat)]).cell j
      rw [Addr.add_lit, Nat.zero_add]
      exact this.trans (by simpa using hj)) (oneI _) (by simp only [maxLen]; omega) (by omega) (by rw [World.size_alloc]; omega)
  have hba : Below wr.heap.size wr (wr.alloc (.cells #[.int .i64 (i : Nat)] 3)) := below_alloc (Below.refl _ _) _
  have hkeep : ∀ B t cs, Blk wr B t cs → t ≠ 3 → Blk w' B t cs := fun B t cs hB ht =>
    (hgrow.block B (hB.alloc _).lt (fun e => Blk.not_row hB ht (h.own u hu) e.symm)).trans (hB.alloc _)
  have hob : ∀ b, (rv u).ownBlock = some b → w.heap.size ≤ b := fun b e => ((h.own u hu).lt b e).1
  have hne : ∀ b, v'.ownBlock = some b → (rv u).ownBlock = some b ∨ b = wr.heap.size + 1 := fun b e => by
    rcases hat with h5 | h5
    · exact .inl (by rw [← h5]; exact e)
    · right
      rw [h5, World.size_alloc] at e
      exact (Option.some.inj e).symm
  have hvAB : v'.ownBlock ≠ some AB := Blk.not_row (hkeep AB _ _ h.ab (by decide)) (by decide) hown
  have hrAB : ∀ v, v < N → (rv v).ownBlock ≠ some AB := fun v hv => Blk.not_row h.ab (by decide) (h.own v hv)
  have hfb : Blk w' FB 3 (intsC (List.replicate EL 0)) := (hgrow.block FB (h.fb.alloc _).lt (fun e => h.nfb u hu e.symm)).trans (h.fb.alloc _)
  have hABF : FB ≠ AB := Blk.ne h.fb h.ab (by decide)
  refine ⟨v', w', hr, by have := hgrow.size; rw [World.size_alloc] at this; omega, hkeep, ?_⟩
  refine ⟨((below_step h.bel hba).grown hgrow (by rw [World.size_alloc]; omega) hob).setCell h.low.2.2 _, (hkeep NB _ _ h.nb (by decide)).other (p := ⟨AB, u, none⟩) (Blk.ne h.nb h.ab (by decide)) _, hfb.other (p := ⟨AB, u, none⟩) hABF _, by rw [← rowsC_set]; exact (hkeep AB _ _ h.ab (by decide)).set u v', fun v hv => ?_, fun a b ha hb hab c hc => ?_, fun v hv => ?_, h.low⟩
  · unfold upd
    try dsimp only
    by_cases e : v = u
    · subst e
      rw [if_pos rfl, if_pos rfl, List.length_append]
      exact ownsRow_setCell_other (a := ⟨AB, v, none⟩) (ownsRow_cast (xs' := intsV (natI (L v ++ [i]))) hown rfl (by simp [intsV, natI])) hvAB _
    · rw [if_neg e, if_neg e]
      refine ownsRow_setCell_other (a := ⟨AB, u, none⟩) (((h.own v hv).alloc _).kept hgrow ?_) (hrAB v hv) _
      cases hc : (rv v).ownBlock with
      | none => exact .inl rfl
      | some b => right; intro e2; exact h.dis v u hv hu e b hc e2.symm
  · try dsimp only at hc ⊢
    by_cases e1 : a = u
    · rw [if_pos e1] at hc
      rw [if_neg (fun e2 => hab (e1.trans e2.symm))]
      rcases hne c hc with h5 | h5
      · subst e1; exact h.dis a b ha hb hab c h5
      · intro e3
        have := ((h.own b hb).lt c e3).2
        omega
    · rw [if_neg e1] at hc
      by_cases e2 : b = u
      · rw [if_pos e2]
        intro e3
        rcases hne c e3 with h5 | h5
        · subst e2; exact h.dis a b ha hb hab c hc h5
        · have := ((h.own a ha).lt c hc).2
          omega
      · rw [if_neg e2]; exact h.dis a b ha hb hab c hc
  · try dsimp only
    by_cases e : v = u
    · rw [if_pos e]
      intro e3
      rcases hne FB e3 with h5 | h5
      · exact h.nfb u hu h5
      · have := h.fb.lt
        omega
    · rw [if_neg e]; exact h.nfb v hv
/-- Made. -/
theorem NetI.net {w wr : World} {N NB FB AB : Nat} {E : List Ed} {eo : Option Addr} {ec : Nat} {rv : Nat → Value} (h : NetI w wr N E.length NB FB AB eo ec (fun v => incK E v E.length) rv) (he : EdsS [] w eo E) (hN : ∀ e ∈ E, e.f < N ∧ e.t < N) (hc : ∀ e ∈ E, 0 ≤ e.c ∧ e.c ≤ 1000000) (h64 : N ≤ 64) (h512 : E.length ≤ 512) : NetW wr N E NB FB AB eo ec := by
  refine ⟨h.nb, Blk.ne h.nb h.fb (by decide), Blk.ne h.ab h.fb (by decide), h.ab.lt, (he.of (S' := [FB]) (fun b hb => .inr (by rw [List.mem_singleton.1 hb]; exact h.low.2.1))).later h.bel, fun v hv => ?_, hN, hc, h64, h512⟩
  have ho := h.own v hv
  have hca := (h.ab.cell v).trans (rowsC_get (rv := rv) hv)
  obtain ⟨o, cap, ho2, _⟩ := ownsRow_shapeQ ho
  refine ⟨o, cap, by rw [hca, ho2]; rfl, fun i hi => ?_⟩
  rw [ho2] at ho
  have hi2 : i < (incL E v).length := by rwa [natI_length] at hi
  obtain ⟨g, rfl, _, hcell⟩ := ownsRow_cellQ (j := i) (u := .int .i64 ((natI (incL E v)).getD i 0)) ho (by
    rw [incK_all]
    simp [intsV, natI, hi2])
  refine ⟨g, 0, rfl, fun hm => ?_, by rw [Nat.zero_add]; exact hcell⟩
  rw [List.mem_singleton] at hm
  refine h.nfb v hv ?_
  rw [ho2, ← hm]
  rfl
set_option maxRecDepth 100000 in
set_option maxHeartbeats 16000000 in
theorem newNet_any (w : World) (N : Nat) (E : List Ed) (eo : Option Addr) (ec : Nat) (he : EdsS [] w eo E) (hN : ∀ e ∈ E, e.f < N ∧ e.t < N) (hc : ∀ e ∈ E, 0 ≤ e.c ∧ e.c ≤ 1000000) (h64 : N ≤ 64) (h512 : E.length ≤ 512) :
    Calls Try.prog 37 #[.agg #[.int .i64 (N : Nat), .slice eo E.length ec]] w (fun e w' => ∃ NB FB AB, e = .returned (.pointer (some ⟨NB, 0, none⟩)) ∧ Below w.heap.size w w' ∧ w.heap.size ≤ FB ∧ NetW w' N E NB FB AB eo ec ∧ Blk w' FB 3 (intsC (List.replicate E.length 0))) := by
  have HE := Lib.hid he
  have HIN := Lib.hid hN
  have HC := Lib.hid hc
  clear he hN hc
  have hmk1 := run_makeN (P := Try.prog) 23 3 (.int .i64 0) 1 8 Try.underlying23 (by kernel_rfl) E.length (by omega) (by omega)
  have hmk2 := run_makeN (P := Try.prog) 28 23 (.slice none 0 0) 1 24 Try.underlying28 (by kernel_rfl) N (by omega) (by omega)
  rw [show (Value.int .i64 0).cells = #[.int .i64 0] from rfl, Nat.mul_one, made_intsN] at hmk1
  rw [show (Value.slice none 0 0).cells = #[.slice none 0 0] from rfl, Nat.mul_one, made_rows] at hmk2
  have HB0 := Lib.hid (show Blk (w.alloc (.cells #[.int .i64 (N : Nat), .slice eo E.length ec] 53)) w.heap.size 53 #[.int .i64 (N : Nat), .slice eo E.length ec] from Blk.new ..)
  go_enter Try.func37, Try.ntmps37
  go_upto_region 1 with (fail)
  obtain ⟨W1, hW1⟩ : ∃ W, W = w.alloc (.cells #[.int .i64 (N : Nat), .slice eo E.length ec] 53) := ⟨_, rfl⟩
  have HBL1 := Lib.hid (show Below w.heap.size w W1 by rw [hW1]; exact below_alloc (Below.refl _ _) _)
  have HSZ1 := Lib.hid (show w.heap.size < W1.heap.size by rw [hW1, World.size_alloc]; omega)
  rw [← hW1] at HB0 ⊢
  clear hW1
  have g0 : W1.cell? ⟨w.heap.size, 0, none⟩ = some (.int .i64 (N : Nat)) := HB0.out.cell 0
  have g1 : W1.cell? ⟨w.heap.size, 1, none⟩ = some (.slice eo E.length ec) := HB0.out.cell 1
  have g0a : ∀ o, (W1.alloc o).cell? ⟨w.heap.size, 0, none⟩ = some (.int .i64 (N : Nat)) := fun o => cell_kept (below_alloc (Below.refl _ _) o) g0
  have g1a : ∀ o, (W1.alloc o).cell? ⟨w.heap.size, 1, none⟩ = some (.slice eo E.length ec) := fun o => cell_kept (below_alloc (Below.refl _ _) o) g1
  have g0b : ∀ o o', ((W1.alloc o).alloc o').cell? ⟨w.heap.size, 0, none⟩ = some (.int .i64 (N : Nat)) := fun o o' => cell_kept (below_alloc (below_alloc (Below.refl _ _) o) o') g0
  have g1b : ∀ o o', ((W1.alloc o).alloc o').cell? ⟨w.heap.size, 1, none⟩ = some (.slice eo E.length ec) := fun o o' => cell_kept (below_alloc (below_alloc (Below.refl _ _) o) o') g1
  go_cut [3] (fun a wx => ∃ NB FB AB, a = .pointer (some ⟨NB, 0, none⟩) ∧ NetI w wx N E.length NB FB AB eo ec (fun v => incK E v 0) (fun _ => .slice none 0 0) ∧ Blk wx w.heap.size 53 #[.int .i64 (N : Nat), .slice eo E.length ec])
  case first =>
    go_region
    all_goals (go_wp2_with fail; go_meet)
    · refine ⟨W1.heap.size + 1 + 1, W1.heap.size, W1.heap.size + 1, rfl, ?_, ?_⟩
      · have h1 := Blk.new W1 3 (intsC (List.replicate E.length 0))
        have h2 := Blk.new (W1.alloc (.cells (intsC (List.replicate E.length 0)) 3)) 23 (rowsC (fun _ => .slice none 0 0) N)
        rw [World.size_alloc] at h2
        refine NetI.zero (below_step HBL1.out (below_alloc (below_alloc (below_alloc (Below.refl _ _) _) _) _).drew) (E := E) ?_ (((h1.alloc _).alloc _).drew) ((h2.alloc _).drew) ?_
        · have h3 := Blk.new ((W1.alloc (.cells (intsC (List.replicate E.length 0)) 3)).alloc (.cells (rowsC (fun _ => .slice none 0 0) N) 23)) 86 #[.int .i64 (N : Nat), .slice eo E.length ec, .slice (some ⟨W1.heap.size, 0, none⟩) E.length E.length, .slice (some ⟨W1.heap.size + 1, 0, none⟩) N N]
          rw [World.size_alloc, World.size_alloc] at h3
          exact h3.drew
        · have := HSZ1.out; omega
      · exact (((HB0.out.alloc _).alloc _).alloc _).drew
    · refine ⟨W1.heap.size + 1 + 1, W1.heap.size + 1, W1.heap.size, rfl, ?_, ?_⟩
      · have h1 := Blk.new W1 23 (rowsC (fun _ => .slice none 0 0) N)
        have h2 := Blk.new (W1.alloc (.cells (rowsC (fun _ => .slice none 0 0) N) 23)) 3 (intsC (List.replicate E.length 0))
        rw [World.size_alloc] at h2
        refine NetI.zero (below_step HBL1.out (below_alloc (below_alloc (below_alloc (Below.refl _ _) _) _) _).drew) (E := E) ?_ ((h2.alloc _).drew) (((h1.alloc _).alloc _).drew) ?_
        · have h3 := Blk.new ((W1.alloc (.cells (rowsC (fun _ => .slice none 0 0) N) 23)).alloc (.cells (intsC (List.replicate E.length 0)) 3)) 86 #[.int .i64 (N : Nat), .slice eo E.length ec, .slice (some ⟨W1.heap.size + 1, 0, none⟩) E.length E.length, .slice (some ⟨W1.heap.size, 0, none⟩) N N]
          rw [World.size_alloc, World.size_alloc] at h3
          exact h3.drew
        · have := HSZ1.out; omega
      · exact (((HB0.out.alloc _).alloc _).alloc _).drew
  case rest =>
    obtain ⟨NB, FB, AB, rfl, hni, hgb⟩ := hcut
    have HNI := Lib.hid hni
    have HGB := Lib.hid hgb
    clear hni hgb hmk1 hmk2 g0 g1 g0a g1a g0b g1b HB0
    have g1 := HGB.out.cell 1
    go_wp2_with fail
    clear g1
    go_loopw [19] (fun i wr => ∃ (k : Nat) (rv : Nat → Value), k ≤ E.length ∧ i = .int .i64 k ∧ NetI w wr N E.length NB FB AB eo ec (fun v => incK E v k) rv) (fun i _ => E.length - (intOf i).toNat)
    case atStart => exact ⟨0, _, Nat.zero_le _, rfl, HNI.out⟩
    case round =>
      obtain ⟨k, rv, hk, rfl, hni⟩ := hrel
      obtain ⟨wA, rfl⟩ : ∃ wA : World, wA = wr := ⟨_, rfl⟩
      clear HNI
      have HNI := Lib.hid hni
      clear hni HGB
      by_cases hlt : k < E.length
      · obtain ⟨be, oe, rfl, _, d0, d1, d2⟩ := (HE.out.later HNI.out.bel) k hlt
        have HM := Lib.hid (HIN.out _ (getE_mem hlt))
        have HU1 := Lib.hid (upd_one (E := E) (k := k))
        have HU2 := Lib.hid (upd_two (E := E) (k := k))
        have hkE := incK_le E
        obtain ⟨ef, hef⟩ : ∃ x, (getE E k).f = x := ⟨_, rfl⟩
        obtain ⟨et, het⟩ : ∃ x, (getE E k).t = x := ⟨_, rfl⟩
        obtain ⟨cc, hcc⟩ : ∃ x, (getE E k).c = x := ⟨_, rfl⟩
        rw [hef] at d0 HM HU1 HU2
        rw [het] at d1 HM HU1 HU2
        rw [hcc] at d2
        clear hef het hcc
        have hfN := HM.out.1
        have htN := HM.out.2
        have hlf : (incK E ef k).length ≤ 1000 := Nat.le_trans (hkE ef k) (by omega)
        have hlt1 : (upd (fun v => incK E v k) ef k et).length ≤ 1000 := by
          unfold upd
          have := hkE et k
          dsimp only
          split
          · rw [List.length_append]; simp; omega
          · omega
        clear hkE
        obtain ⟨EL, hEL⟩ : ∃ n, E.length = n := ⟨_, rfl⟩
        have HEL := Lib.hid hEL
        rw [hEL] at hlt hk HNI h512
        have y1 : (0 : Int) ≤ (k : Int) := by omega
        have y2 : (k : Int) < (EL : Int) := by omega
        have y3 : (0 : Int) ≤ (ef : Int) := by omega
        have y4 : (ef : Int) < (N : Int) := by omega
        have y5 : (0 : Int) ≤ (et : Int) := by omega
        have y6 : (et : Int) < (N : Int) := by omega
        rw [hEL]
        clear hEL
        go_wp2_with fail
        obtain ⟨W4, hW4⟩ : ∃ W, W = wA.alloc (.cells #[.int .i64 (ef : Nat), .int .i64 (et : Nat), .int .i64 cc] 55) := ⟨_, rfl⟩
        have hb4 : Below wA.heap.size wA W4 := by rw [hW4]; exact below_alloc (Below.refl _ _) _
        have HP4 := Lib.hid (show Blk W4 wA.heap.size 55 #[.int .i64 (ef : Nat), .int .i64 (et : Nat), .int .i64 cc] by rw [hW4]; exact Blk.new ..)
        have HN4 := Lib.hid (HNI.out.later hb4)
        rw [← hW4]
        clear hW4 hb4 d0 d1 d2 HNI
        obtain ⟨EB, hEB⟩ : ∃ x, wA.heap.size = x := ⟨_, rfl⟩
        rw [hEB] at HP4 ⊢
        clear hEB
        obtain ⟨oa, ca, hxa, _⟩ := ownsRow_shapeQ (HN4.out.own ef hfN)
        obtain ⟨na, hna⟩ : ∃ n, (incK E ef k).length = n := ⟨_, rfl⟩
        rw [hna] at hxa
        have HXa := Lib.hid hxa
        clear hxa hna
        have HJ0 := Lib.hid (show W4.cell? ⟨NB, 3, none⟩ = some (.slice (some ⟨AB, 0, none⟩) N N) ∧ W4.cell? ⟨EB, 0, none⟩ = some (.int .i64 (ef : Nat)) ∧ W4.cell? ⟨AB, ef, none⟩ = some (.slice oa na ca) from ⟨HN4.out.nb.cell 3, HP4.out.cell 0, ((HN4.out.ab.cell ef).trans (rowsC_get hfN)).trans (congrArg some HXa.out)⟩)
        refine wp_region_mask [15, 16, 18] [true, true, true, true, true, true, true, true, true, true, true, true, true, true, true, false, false, true, false] (fun w'' => w''.cell? ⟨NB, 3, none⟩ = some (.slice (some ⟨AB, 0, none⟩) N N) ∧ w''.cell? ⟨EB, 0, none⟩ = some (.int .i64 (ef : Nat)) ∧ w''.cell? ⟨AB, ef, none⟩ = some (.slice oa na ca)) mixed (by kernel_rfl) ?_
        intro KR hR
        have HR := Lib.hid hR
        clear hR
        simp only [marked]
        apply wpM_val rfl
        · (intro w' hw'; go_simp; with_reducible rfl)
        simp only [Act.put, List.setIfInBounds_toArray, List.set_cons_zero, List.set_cons_succ]
        apply wpM_val rfl
        · (intro w' hw'; go_simp; with_reducible rfl)
        simp only [Act.put, List.setIfInBounds_toArray, List.set_cons_zero, List.set_cons_succ]
        apply wpM_val rfl
        · (intro w' hw'; go_simp; with_reducible rfl)
        simp only [Act.put, List.setIfInBounds_toArray, List.set_cons_zero, List.set_cons_succ]
        apply wpM_val rfl
        · (intro w' hw'; obtain ⟨c0, c1, c2⟩ := hw'; go_simp; with_reducible rfl)
        simp only [Act.put, List.setIfInBounds_toArray, List.set_cons_zero, List.set_cons_succ]
        apply wpM_val rfl
        · (intro w' hw'; go_simp; with_reducible rfl)
        simp only [Act.put, List.setIfInBounds_toArray, List.set_cons_zero, List.set_cons_succ]
        apply wpM_val rfl
        · (intro w' hw'; obtain ⟨c0, c1, c2⟩ := hw'; go_simp; with_reducible rfl)
        simp only [Act.put, List.setIfInBounds_toArray, List.set_cons_zero, List.set_cons_succ]
        apply wpM_val rfl
        · (intro w' hw'; go_simp; with_reducible rfl)
        simp only [Act.put, List.setIfInBounds_toArray, List.set_cons_zero, List.set_cons_succ]
        apply wpM_val rfl
        · (intro w' hw'; go_simp; with_reducible rfl)
        simp only [Act.put, List.setIfInBounds_toArray, List.set_cons_zero, List.set_cons_succ]
        apply wpM_val rfl
        · (intro w' hw'; go_simp; with_reducible rfl)
        simp only [Act.put, List.setIfInBounds_toArray, List.set_cons_zero, List.set_cons_succ]
        apply wpM_val rfl
        · (intro w' hw'; obtain ⟨c0, c1, c2⟩ := hw'; go_simp; with_reducible rfl)
        simp only [Act.put, List.setIfInBounds_toArray, List.set_cons_zero, List.set_cons_succ]
        apply wpM_val rfl
        · (intro w' hw'; go_simp; with_reducible rfl)
        simp only [Act.put, List.setIfInBounds_toArray, List.set_cons_zero, List.set_cons_succ]
        apply wpM_val rfl
        · (intro w' hw'; obtain ⟨c0, c1, c2⟩ := hw'; go_simp; with_reducible rfl)
        simp only [Act.put, List.setIfInBounds_toArray, List.set_cons_zero, List.set_cons_succ]
        apply wpM_val rfl
        · (intro w' hw'; go_simp; with_reducible rfl)
        simp only [Act.put, List.setIfInBounds_toArray, List.set_cons_zero, List.set_cons_succ]
        apply wpM_val rfl
        · (intro w' hw'; obtain ⟨c0, c1, c2⟩ := hw'; go_simp; with_reducible rfl)
        simp only [Act.put, List.setIfInBounds_toArray, List.set_cons_zero, List.set_cons_succ]
        apply wpM_val rfl
        · (intro w' hw'; go_simp; with_reducible rfl)
        simp only [Act.put, List.setIfInBounds_toArray, List.set_cons_zero, List.set_cons_succ]
        apply wpM_val rfl
        · (intro w' hw'; go_simp; with_reducible rfl)
        simp only [Act.put, List.setIfInBounds_toArray, List.set_cons_zero, List.set_cons_succ]
        refine wpM_nil (HR.out _ ?_)
        clear HR
        obtain ⟨W5, hW5⟩ : ∃ W, W = W4.drew := ⟨_, rfl⟩
        have hb5 : Below W4.heap.size W4 W5 := by rw [hW5]; exact (Below.refl _ _).drew
        have HN5 := Lib.hid (HN4.out.later hb5)
        have HP5 := Lib.hid (HP4.out.later hb5)
        have HJ5 := Lib.hid (show W5.cell? ⟨NB, 3, none⟩ = some (.slice (some ⟨AB, 0, none⟩) N N) ∧ W5.cell? ⟨EB, 0, none⟩ = some (.int .i64 (ef : Nat)) ∧ W5.cell? ⟨AB, ef, none⟩ = some (.slice oa na ca) from ⟨HN5.out.nb.cell 3, HP5.out.cell 0, ((HN5.out.ab.cell ef).trans (rowsC_get hfN)).trans (congrArg some HXa.out)⟩)
        rw [← hW5]
        clear hW5 hb5 HJ0
        refine wpC_run rfl rfl HJ5.out (v := .slice (some ⟨W5.heap.size, 0, none⟩) 1 1) (w' := W5.alloc (.cells #[.int .i64 (k : Nat)] 3)) (by go_simp) ?_
        simp only [Act.put, List.setIfInBounds_toArray]
        have HP6 := Lib.hid (HP5.out.alloc (.cells #[.int .i64 (k : Nat)] 3))
        have HN6 := Lib.hid (HN5.out.later (below_alloc (Below.refl _ _) (.cells #[.int .i64 (k : Nat)] 3)))
        obtain ⟨v', w', hr, hsz, hkeep, hpush⟩ := HN5.out.push (i := k) hfN hlf 23
        rw [HXa.out] at hr
        refine wpC_append _ _ rfl rfl rfl (show (W5.alloc (.cells #[.int .i64 (k : Nat)] 3)).cell? ⟨NB, 3, none⟩ = some (.slice (some ⟨AB, 0, none⟩) N N) ∧ (W5.alloc (.cells #[.int .i64 (k : Nat)] 3)).cell? ⟨EB, 0, none⟩ = some (.int .i64 (ef : Nat)) ∧ (W5.alloc (.cells #[.int .i64 (k : Nat)] 3)).cell? ⟨AB, ef, none⟩ = some (.slice oa na ca) from ⟨HN6.out.nb.cell 3, HP6.out.cell 0, ((HN6.out.ab.cell ef).trans (rowsC_get hfN)).trans (congrArg some HXa.out)⟩) hr ?_
        simp only [Act.put]
        clear hr HN6 HP6
        obtain ⟨o2, c2, h2, _⟩ := ownsRow_shapeQ (hpush.own ef hfN)
        rw [if_pos rfl] at h2
        obtain ⟨n2, hn2⟩ : ∃ n, (upd (fun v => incK E v k) ef k ef).length = n := ⟨_, rfl⟩
        rw [hn2] at h2
        subst h2
        clear hn2
        have HPU := Lib.hid hpush
        have HPk := Lib.hid (hkeep EB _ _ HP5.out (by decide))
        have HAk := Lib.hid (hkeep AB _ _ HN5.out.ab (by decide))
        have HNk := Lib.hid (hkeep NB _ _ HN5.out.nb (by decide))
        clear hpush hkeep hsz
        have f8 := HAk.out.frozen ef
        have HJ8 := Lib.hid (show w'.cell? ⟨NB, 3, none⟩ = some (.slice (some ⟨AB, 0, none⟩) N N) ∧ w'.cell? ⟨EB, 0, none⟩ = some (.int .i64 (ef : Nat)) ∧ w'.cell? ⟨AB, ef, none⟩ = some (.slice oa na ca) from ⟨HNk.out.cell 3, HPk.out.cell 0, ((HAk.out.cell ef).trans (rowsC_get hfN)).trans (congrArg some HXa.out)⟩)
        have c8 := HJ8.out.2.2
        refine wpC_skipN rfl rfl rfl HJ8.out (w' := w'.setCell ⟨AB, ef, none⟩ (.slice o2 n2 c2)) (by go_simp) ?_
        refine wpC_nil ?_
        obtain ⟨Wa, hW8⟩ : ∃ W, W = w'.setCell ⟨AB, ef, none⟩ (.slice o2 n2 c2) := ⟨_, rfl⟩
        have HPa := Lib.hid (HPk.out.other (p := ⟨AB, ef, none⟩) (Blk.ne HPk.out HAk.out (by decide)) (.slice o2 n2 c2))
        have HNa := HPU
        rw [← hW8] at HPa HNa ⊢
        clear hW8 HPU HPk HAk HNk f8 c8 HJ8 HJ5 HN5 HP5
        obtain ⟨rva, hrv⟩ : ∃ r, r = (fun v => if v = ef then Value.slice o2 n2 c2 else rv v) := ⟨_, rfl⟩
        rw [← hrv] at HNa
        clear hrv HXa HN4 HP4
        have q0 := HPa.out.cell 0
        have q1 := HPa.out.cell 1
        by_cases hte : et = ef
        · have d1 : ((et : Int) != (ef : Int)) = false := by rw [hte]; simp
          have HTE := Lib.hid hte
          clear hte
          go_wp2
          go_round
          case rel => exact ⟨k + 1, _, hlt, by go_num, by have := HNa.out; rw [HU1.out HTE.out] at this; exact this⟩
          case measure => exact meas_lt hlt
        · have d1 : ((et : Int) != (ef : Int)) = true := by simp; omega
          have HTE := Lib.hid hte
          clear hte
          go_wp2_with fail
          obtain ⟨ob, cb, hxb, _⟩ := ownsRow_shapeQ (HNa.out.own et htN)
          obtain ⟨nb, hnb⟩ : ∃ n, (upd (fun v => incK E v k) ef k et).length = n := ⟨_, rfl⟩
          rw [hnb] at hxb
          have HXb := Lib.hid hxb
          clear hxb hnb
          have HJ0 := Lib.hid (show Wa.cell? ⟨NB, 3, none⟩ = some (.slice (some ⟨AB, 0, none⟩) N N) ∧ Wa.cell? ⟨EB, 1, none⟩ = some (.int .i64 (et : Nat)) ∧ Wa.cell? ⟨AB, et, none⟩ = some (.slice ob nb cb) from ⟨HNa.out.nb.cell 3, HPa.out.cell 1, ((HNa.out.ab.cell et).trans (rowsC_get htN)).trans (congrArg some HXb.out)⟩)
          refine wp_region_mask [15, 16, 18] [true, true, true, true, true, true, true, true, true, true, true, true, true, true, true, false, false, true, false] (fun w'' => w''.cell? ⟨NB, 3, none⟩ = some (.slice (some ⟨AB, 0, none⟩) N N) ∧ w''.cell? ⟨EB, 1, none⟩ = some (.int .i64 (et : Nat)) ∧ w''.cell? ⟨AB, et, none⟩ = some (.slice ob nb cb)) mixed (by kernel_rfl) ?_
          intro KR hR
          have HR := Lib.hid hR
          clear hR
          simp only [marked]
          apply wpM_val rfl
          · (intro w' hw'; go_simp; with_reducible rfl)
          simp only [Act.put, List.setIfInBounds_toArray, List.set_cons_zero, List.set_cons_succ]
          apply wpM_val rfl
          · (intro w' hw'; go_simp; with_reducible rfl)
          simp only [Act.put, List.setIfInBounds_toArray, List.set_cons_zero, List.set_cons_succ]
          apply wpM_val rfl
          · (intro w' hw'; go_simp; with_reducible rfl)
          simp only [Act.put, List.setIfInBounds_toArray, List.set_cons_zero, List.set_cons_succ]
          apply wpM_val rfl
          · (intro w' hw'; obtain ⟨c0, c1, c2⟩ := hw'; go_simp; with_reducible rfl)
          simp only [Act.put, List.setIfInBounds_toArray, List.set_cons_zero, List.set_cons_succ]
          apply wpM_val rfl
          · (intro w' hw'; go_simp; with_reducible rfl)
          simp only [Act.put, List.setIfInBounds_toArray, List.set_cons_zero, List.set_cons_succ]
          apply wpM_val rfl
          · (intro w' hw'; obtain ⟨c0, c1, c2⟩ := hw'; go_simp; with_reducible rfl)
          simp only [Act.put, List.setIfInBounds_toArray, List.set_cons_zero, List.set_cons_succ]
          apply wpM_val rfl
          · (intro w' hw'; go_simp; with_reducible rfl)
          simp only [Act.put, List.setIfInBounds_toArray, List.set_cons_zero, List.set_cons_succ]
          apply wpM_val rfl
          · (intro w' hw'; go_simp; with_reducible rfl)
          simp only [Act.put, List.setIfInBounds_toArray, List.set_cons_zero, List.set_cons_succ]
          apply wpM_val rfl
          · (intro w' hw'; go_simp; with_reducible rfl)
          simp only [Act.put, List.setIfInBounds_toArray, List.set_cons_zero, List.set_cons_succ]
          apply wpM_val rfl
          · (intro w' hw'; obtain ⟨c0, c1, c2⟩ := hw'; go_simp; with_reducible rfl)
          simp only [Act.put, List.setIfInBounds_toArray, List.set_cons_zero, List.set_cons_succ]
          apply wpM_val rfl
          · (intro w' hw'; go_simp; with_reducible rfl)
          simp only [Act.put, List.setIfInBounds_toArray, List.set_cons_zero, List.set_cons_succ]
          apply wpM_val rfl
          · (intro w' hw'; obtain ⟨c0, c1, c2⟩ := hw'; go_simp; with_reducible rfl)
          simp only [Act.put, List.setIfInBounds_toArray, List.set_cons_zero, List.set_cons_succ]
          apply wpM_val rfl
          · (intro w' hw'; go_simp; with_reducible rfl)
          simp only [Act.put, List.setIfInBounds_toArray, List.set_cons_zero, List.set_cons_succ]
          apply wpM_val rfl
          · (intro w' hw'; obtain ⟨c0, c1, c2⟩ := hw'; go_simp; with_reducible rfl)
          simp only [Act.put, List.setIfInBounds_toArray, List.set_cons_zero, List.set_cons_succ]
          apply wpM_val rfl
          · (intro w' hw'; go_simp; with_reducible rfl)
          simp only [Act.put, List.setIfInBounds_toArray, List.set_cons_zero, List.set_cons_succ]
          apply wpM_val rfl
          · (intro w' hw'; go_simp; with_reducible rfl)
          simp only [Act.put, List.setIfInBounds_toArray, List.set_cons_zero, List.set_cons_succ]
          refine wpM_nil (HR.out _ ?_)
          clear HR
          obtain ⟨W5, hW5⟩ : ∃ W, W = Wa.drew := ⟨_, rfl⟩
          have hb5 : Below Wa.heap.size Wa W5 := by rw [hW5]; exact (Below.refl _ _).drew
          have HN5 := Lib.hid (HNa.out.later hb5)
          have HP5 := Lib.hid (HPa.out.later hb5)
          have HJ5 := Lib.hid (show W5.cell? ⟨NB, 3, none⟩ = some (.slice (some ⟨AB, 0, none⟩) N N) ∧ W5.cell? ⟨EB, 1, none⟩ = some (.int .i64 (et : Nat)) ∧ W5.cell? ⟨AB, et, none⟩ = some (.slice ob nb cb) from ⟨HN5.out.nb.cell 3, HP5.out.cell 1, ((HN5.out.ab.cell et).trans (rowsC_get htN)).trans (congrArg some HXb.out)⟩)
          rw [← hW5]
          clear hW5 hb5 HJ0
          refine wpC_run rfl rfl HJ5.out (v := .slice (some ⟨W5.heap.size, 0, none⟩) 1 1) (w' := W5.alloc (.cells #[.int .i64 (k : Nat)] 3)) (by go_simp) ?_
          simp only [Act.put, List.setIfInBounds_toArray]
          have HP6 := Lib.hid (HP5.out.alloc (.cells #[.int .i64 (k : Nat)] 3))
          have HN6 := Lib.hid (HN5.out.later (below_alloc (Below.refl _ _) (.cells #[.int .i64 (k : Nat)] 3)))
          obtain ⟨v', w', hr, hsz, hkeep, hpush⟩ := HN5.out.push (i := k) htN hlt1 23
          rw [HXb.out] at hr
          refine wpC_append _ _ rfl rfl rfl (show (W5.alloc (.cells #[.int .i64 (k : Nat)] 3)).cell? ⟨NB, 3, none⟩ = some (.slice (some ⟨AB, 0, none⟩) N N) ∧ (W5.alloc (.cells #[.int .i64 (k : Nat)] 3)).cell? ⟨EB, 1, none⟩ = some (.int .i64 (et : Nat)) ∧ (W5.alloc (.cells #[.int .i64 (k : Nat)] 3)).cell? ⟨AB, et, none⟩ = some (.slice ob nb cb) from ⟨HN6.out.nb.cell 3, HP6.out.cell 1, ((HN6.out.ab.cell et).trans (rowsC_get htN)).trans (congrArg some HXb.out)⟩) hr ?_
          simp only [Act.put]
          clear hr HN6 HP6
          obtain ⟨o2, c2, h2, _⟩ := ownsRow_shapeQ (hpush.own et htN)
          rw [if_pos rfl] at h2
          obtain ⟨n2, hn2⟩ : ∃ n, (upd (upd (fun v => incK E v k) ef k) et k et).length = n := ⟨_, rfl⟩
          rw [hn2] at h2
          subst h2
          clear hn2
          have HPU := Lib.hid hpush
          have HPk := Lib.hid (hkeep EB _ _ HP5.out (by decide))
          have HAk := Lib.hid (hkeep AB _ _ HN5.out.ab (by decide))
          have HNk := Lib.hid (hkeep NB _ _ HN5.out.nb (by decide))
          clear hpush hkeep hsz
          have f8 := HAk.out.frozen et
          have HJ8 := Lib.hid (show w'.cell? ⟨NB, 3, none⟩ = some (.slice (some ⟨AB, 0, none⟩) N N) ∧ w'.cell? ⟨EB, 1, none⟩ = some (.int .i64 (et : Nat)) ∧ w'.cell? ⟨AB, et, none⟩ = some (.slice ob nb cb) from ⟨HNk.out.cell 3, HPk.out.cell 1, ((HAk.out.cell et).trans (rowsC_get htN)).trans (congrArg some HXb.out)⟩)
          have c8 := HJ8.out.2.2
          refine wpC_skipN rfl rfl rfl HJ8.out (w' := w'.setCell ⟨AB, et, none⟩ (.slice o2 n2 c2)) (by go_simp) ?_
          refine wpC_nil ?_
          obtain ⟨Wb, hW8⟩ : ∃ W, W = w'.setCell ⟨AB, et, none⟩ (.slice o2 n2 c2) := ⟨_, rfl⟩
          have HPb := Lib.hid (HPk.out.other (p := ⟨AB, et, none⟩) (Blk.ne HPk.out HAk.out (by decide)) (.slice o2 n2 c2))
          have HNb := HPU
          rw [← hW8] at HPb HNb ⊢
          clear hW8 HPU HPk HAk HNk f8 c8 HJ8 HJ5 HN5 HP5
          obtain ⟨rvb, hrv⟩ : ∃ r, r = (fun v => if v = et then Value.slice o2 n2 c2 else rva v) := ⟨_, rfl⟩
          rw [← hrv] at HNb
          clear hrv HXb HNa HPa
          go_wp2
          go_round
          case rel => exact ⟨k + 1, _, hlt, by go_num, by have := HNb.out; rw [HU2.out HTE.out] at this; exact this⟩
          case measure => exact meas_lt hlt
      · obtain rfl : k = E.length := by omega
        go_wp2
        go_ret
        exact ⟨NB, FB, AB, rfl, HNI.out.bel, HNI.out.low.2.1, HNI.out.net HE.out HIN.out HC.out h64 h512, HNI.out.fb⟩
end Go.Proofs.Ythgkfdhkmkbioaa