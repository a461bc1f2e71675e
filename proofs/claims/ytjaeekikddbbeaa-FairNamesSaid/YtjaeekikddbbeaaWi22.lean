/- Chapter 22: Share. -/
import Derived.Test.YtjaeekikddbbeaaWh22
import Derived.Laws.CopyOwn
namespace Go.Proofs.Ytjaeekikddbbeaa
open Go.RowKit
attribute [local go_sem] Oper.semAt_some

/-! ### The pass, step by step -/
structure PassAt (rows : List Rw) (most rs x0 : List Int) (f j : Nat) (kp x : List Int) : Prop where
  eq : pass rows most rs x0 = ((pass rows most (rs.drop j) x).1, kp ++ (pass rows most (rs.drop j) x).2)
  nd : rs.Nodup
  rng : ∀ m ∈ rs, 0 ≤ m ∧ m < (most.length : Int)
  fit : Fit rows most x
  todo : ∀ m ∈ rs.drop j, atI x m + (f : Int) = 1002
  kept : ∀ m ∈ kp, atI x m + (f : Int) = 1003
  sub : kp.Sublist (rs.take j)
section
variable {rows : List Rw} {most rs x0 : List Int} {f j : Nat} {kp x : List Int}
theorem PassAt.start (hn : rs.Nodup) (hr : ∀ m ∈ rs, 0 ≤ m ∧ m < (most.length : Int)) (hf : Fit rows most x) (h : ∀ m ∈ rs, atI x m + (f : Int) = 1002) : PassAt rows most rs x f 0 [] x :=
  ⟨by rw [List.drop_zero]; rfl, hn, hr, hf, by rw [List.drop_zero]; exact h, fun _ h => (by cases h), List.nil_sublist _⟩
theorem PassAt.yes (h : PassAt rows most rs x0 f j kp x) (hj : j < rs.length) (hc : can rows most x (rs.getD j 0) = true) : PassAt rows most rs x0 f (j + 1) (kp ++ [rs.getD j 0]) (inc x (rs.getD j 0)) := by
  have hd := dropI hj
  have hm : rs.getD j 0 ∈ rs := getD_mem hj
  have hmr := h.rng _ hm
  have hmx : 0 ≤ rs.getD j 0 ∧ rs.getD j 0 < (x.length : Int) := by rw [h.fit.len]; exact hmr
  have hnd : (rs.drop j).Nodup := h.nd.sublist (List.drop_sublist _ _)
  rw [hd, List.nodup_cons] at hnd
  have htd : rs.getD j 0 ∈ rs.drop j := by rw [hd]; simp
  refine ⟨?_, h.nd, h.rng, inc_fit h.fit hmr hc, fun m hm' => ?_, fun m hm' => ?_, ?_⟩
  · rw [h.eq, hd, pass, if_pos hc]
    simp
  · have h0 : 0 ≤ m := (h.rng m (List.mem_of_mem_drop hm')).1
    rw [inc_at hmx h0, if_neg (fun e : m = rs.getD j 0 => hnd.1 (e ▸ hm'))]
    exact h.todo m (by rw [hd]; exact List.mem_cons_of_mem _ hm')
  · rcases List.mem_append.1 hm' with hm' | hm'
    · have hmt : m ∈ rs.take j := h.sub.mem hm'
      have h0 : 0 ≤ m := (h.rng m (List.mem_of_mem_take hmt)).1
      have hne : m ≠ rs.getD j 0 := fun e => by
        have := h.nd
        rw [← List.take_append_drop j rs, List.nodup_append] at this
        exact this.2.2 m hmt (rs.getD j 0) htd e
      rw [inc_at hmx h0, if_neg hne]
      exact h.kept m hm'
    · have hm2 : m = rs.getD j 0 := List.mem_singleton.1 hm'
      have h3 := h.todo _ htd
      rw [hm2, inc_at hmx hmx.1, if_pos rfl]
      omega
  · rw [takeI hj]
    exact h.sub.append (List.Sublist.refl _)
theorem PassAt.no (h : PassAt rows most rs x0 f j kp x) (hj : j < rs.length) (hc : can rows most x (rs.getD j 0) = false) : PassAt rows most rs x0 f (j + 1) kp x := by
  have hd := dropI hj
  refine ⟨?_, h.nd, h.rng, h.fit, fun m hm' => h.todo m (by rw [hd]; exact List.mem_cons_of_mem _ hm'), h.kept, ?_⟩
  · rw [h.eq, hd, pass, if_neg (by rw [hc]; decide)]
  · rw [takeI hj]
    exact h.sub.trans (List.sublist_append_left _ _)
theorem PassAt.done (h : PassAt rows most rs x0 f rs.length kp x) : pass rows most rs x0 = (x, kp) := by
  have := h.eq
  rw [List.drop_length] at this
  simpa [pass] using this
theorem PassAt.len (h : PassAt rows most rs x0 f j kp x) : kp.length ≤ j := by
  have h1 := h.sub.length_le
  rw [List.length_take] at h1
  omega
end

/-! ### The memory of Share -/
structure MSt (W wr : World) (gx gl gr : Nat) (rows : List Rw) (most x cur : List Int) : Prop where
  agr : Agr W wr [gx, gl, gr]
  bx : Blk wr gx 3 (intsC x)
  bl : Blk wr gl 3 (intsC (lefts rows x))
  br : Blk wr gr 3 (intsC cur)
  len : cur.length = most.length
theorem MSt.rise {W wr w' : World} {gx gl gr : Nat} {rows : List Rw} {most x cur : List Int} {m : Int} {b : Bool} (h : MSt W wr gx gl gr rows most x cur) (hg : gr ≠ gx ∧ gr ≠ gl) (hc : can rows most x m = b) (ha : Agr wr w' [gx, gl]) (hx : Blk w' gx 3 (intsC (if can rows most x m = true then inc x m else x))) (hl : Blk w' gl 3 (intsC (lefts rows (if can rows most x m = true then inc x m else x)))) :
    MSt W w' gx gl gr rows most (if b = true then inc x m else x) cur := by
  rw [hc] at hx hl
  exact ⟨h.agr.trans ha (fun b hb => by simp at hb ⊢; rcases hb with rfl | rfl <;> simp), hx, hl, ha.blk h.br (by simp; exact hg), h.len⟩
theorem MSt.put {W wr : World} {gx gl gr k : Nat} {rows : List Rw} {most x cur : List Int} {m : Int} (h : MSt W wr gx gl gr rows most x cur) (hg : gr ≠ gx ∧ gr ≠ gl) (o : Obj) : MSt W ((wr.alloc o).setCell ⟨gr, k, none⟩ (.int .i64 m)) gx gl gr rows most x (cur.set k m) := by
  refine ⟨(h.agr.alloc o).set (by simp), (h.bx.alloc o).other (fun e => hg.1 e.symm) _, (h.bl.alloc o).other (fun e => hg.2 e.symm) _, ?_, by rw [List.length_set]; exact h.len⟩
  have := (h.br.alloc o).set k (.int .i64 m)
  rwa [intsC_set] at this
/-- How the cells of the list of those that rise stand: first those that are kept, from j on those that are still to come. -/
structure CurAt (cur rs kp : List Int) (j : Nat) : Prop where
  kpE : cur.take kp.length = kp
  rsE : ∀ i, j ≤ i → i < rs.length → cur.getD i 0 = rs.getD i 0
  le : rs.length ≤ cur.length
theorem CurAt.put {cur rs kp : List Int} {j : Nat} {m : Int} (h : CurAt cur rs kp j) (hk : kp.length ≤ j) (hj : j < rs.length) : CurAt (cur.set kp.length m) rs (kp ++ [m]) (j + 1) := by
  have hlt : kp.length < cur.length := by have := h.le; omega
  refine ⟨?_, fun i hi1 hi2 => ?_, by rw [List.length_set]; exact h.le⟩
  · rw [List.length_append, List.length_singleton, List.take_succ_eq_append_getElem (by rw [List.length_set]; exact hlt), List.getElem_set_self]
    congr 1
    rw [List.take_set_of_le (Nat.le_refl _)]
    exact h.kpE
  · rw [getD_set _ _ _ _ _ hlt, if_neg (by omega)]
    exact h.rsE i (by omega) hi2
theorem CurAt.skip {cur rs kp : List Int} {j : Nat} (h : CurAt cur rs kp j) : CurAt cur rs kp (j + 1) := ⟨h.kpE, fun i hi1 hi2 => h.rsE i (by omega) hi2, h.le⟩
theorem CurAt.next {cur rs kp : List Int} {j : Nat} (h : CurAt cur rs kp j) (hk : kp.length ≤ cur.length) : CurAt cur kp [] 0 := by
  refine ⟨rfl, fun i _ hi => ?_, hk⟩
  have : kp.getD i 0 = (cur.take kp.length).getD i 0 := by rw [h.kpE]
  rw [this, List.getD_eq_getElem?_getD, List.getD_eq_getElem?_getD, List.getElem?_take_of_lt hi]

/-- What the rows have at first. -/
def fillL (rows : List Rw) (k : Nat) : List Int := ((rows.take k).map (·.c)) ++ List.replicate (rows.length - k) 0
theorem fillL_zero (rows : List Rw) : fillL rows 0 = List.replicate rows.length 0 := by simp [fillL]
theorem fillL_len {rows : List Rw} {k : Nat} (h : k ≤ rows.length) : (fillL rows k).length = rows.length := by simp [fillL]; omega
theorem fillL_step {rows : List Rw} {k : Nat} (h : k < rows.length) : (fillL rows k).set k (getW rows k).c = fillL rows (k + 1) := by
  unfold fillL
  have e1 : ((rows.take k).map (·.c)).length = k := by simp; omega
  rw [List.set_append_right _ _ (by rw [e1]; exact Nat.le_refl _), e1, Nat.sub_self, show rows.length - k = (rows.length - (k + 1)) + 1 by omega, List.replicate_succ, List.set_cons_zero, List.take_succ_eq_append_getElem h, List.map_append, List.append_assoc]
  simp [getW, h]
theorem fillL_last (rows : List Rw) (n : Nat) : fillL rows rows.length = lefts rows (List.replicate n 0) := by
  unfold fillL lefts
  rw [Nat.sub_self, List.take_length]
  simp only [List.replicate_zero, List.append_nil]
  apply List.map_congr_left
  intro r _
  have : ∀ l : List Int, (l.map (atI (List.replicate n 0))).sum = 0 := by
    intro l
    induction l with
    | nil => rfl
    | cons a bs ih => simp only [List.map_cons, List.sum_cons, zeros_at, ih]; rfl
  unfold sumR
  rw [this]
  omega

/-- copy, from a slice of as many numbers. -/
theorem wp_copy_full {w w0 : World} {ops : Array Oper} {rest : List Oper} {o : Oper} {a : Act} {Q : Exit → Act → World → Prop} {g B n : Nat} {cs : List Value} {oo : Option Addr} {cap : Nat} {l : List Int} (hblk : Blk w g 3 cs.toArray) (hcs : cs.length = n) (hl : l.length = n) (hsrc : Ints w oo l) (hb : Below B w0 w) (hBg : B ≤ g) (hgd : o.guard = none) (d s : Operand)
    (ho : o.op = .call { callee := .builtin .copy, args := #[d, s], argTypes := #[23, 23] }) (hd : a.eval d = .slice (some ⟨g, 0, none⟩) n n) (hs : a.eval s = .slice oo n cap)
    (h : ∀ w', Hid (Blk w' g 3 (intsC l)) → Below B w0 w' → wpList Try.prog ops Q rest (a.put o.dst (goInt n)) w') : wpList Try.prog ops Q (o :: rest) a w := by
  refine wpList_copy_splice hgd d s 23 23 ho 3 Try.underlying23 (by kernel_rfl) (some ⟨g, 0, none⟩) oo n n n cap hd hs g 0 cs 3 hblk (l.map (Value.int .i64 ·)) (by simp [hl]) (fun hpos => ?_) (by simp [hl, hcs]) (fun v hv => ?_) B w0 hb hBg (fun w' hw hb' => ?_)
  · refine ⟨rfl, ?_⟩
    have h0 : 0 < l.length := by simpa using hpos
    obtain ⟨b, off, h1, _⟩ := hsrc 0 h0
    refine ⟨⟨b, off, none⟩, h1, fun j v hj => ?_⟩
    have hjl : j < l.length := by simpa using (List.getElem?_eq_some_iff.1 hj).1
    obtain ⟨b', off', h1', h2'⟩ := hsrc j hjl
    obtain ⟨rfl, rfl⟩ := cells_eq h1 h1'
    rw [Addr.add_lit]
    refine h2'.trans ?_
    simp [hjl] at hj
    simp [hjl, hj]
  · simp only [List.mem_map] at hv
    obtain ⟨k, _, rfl⟩ := hv
    rfl
  · have e : splice cs 0 (l.map (Value.int .i64 ·)) = l.map (Value.int .i64 ·) := by
      simp [splice, hl, hcs]
    rw [e] at hw
    have h2 := h w' hw hb'
    simpa [hl] using h2

def ShareOut (rows : List Rw) (most order : List Int) (w : World) (e : Ending) (w' : World) : Prop :=
  Below w.heap.size w w' ∧ ((validLim rows most && isOrd order (most.length : Nat)) = true ∧ (∃ g, w.heap.size ≤ g ∧ e = .returned (.tuple #[.slice (some ⟨g, 0, none⟩) most.length most.length, .int .i64 0]) ∧ Ints w' (some ⟨g, 0, none⟩) (shareF rows most order))
    ∨ (validLim rows most && isOrd order (most.length : Nat)) = false ∧ e = .returned (.tuple #[.slice none 0 0, .int .i64 1]))
end Go.Proofs.Ytjaeekikddbbeaa
