/- What is metered minute by minute, as a claim. -/
import Derived.Test.YtkfmmiekajgdjaaGreatPn43
import Derived.Test.YtkfmmiekajgdjaaGreatWv43
import Derived.BigRegion
import Derived.Deep.MidRow
namespace Go.Proofs.YtkfmmiekajgdjaaGreat
open Go.RowKit
attribute [local go_sem] Oper.semAt_some

/-- The minutes' currents in memory. -/
def MinM (w : World) (o : Option Addr) (ms : List (Nat × Nat)) : Prop :=
  ∀ i, i < ms.length → ∃ b off, o = some ⟨b, off, none⟩ ∧ w.cell? ⟨b, off + i * 2, none⟩ = some (.int .u8 ((ms.getD i (0, 0)).1 : Nat)) ∧ w.cell? ⟨b, off + i * 2 + 1, none⟩ = some (.int .u8 ((ms.getD i (0, 0)).2 : Nat)) ∧ (ms.getD i (0, 0)).1 < 256 ∧ (ms.getD i (0, 0)).2 < 256
theorem MinM.later {w w' : World} {o : Option Addr} {ms : List (Nat × Nat)} (h : MinM w o ms) (hb : Below w.heap.size w w') : MinM w' o ms := fun i hi => by
  obtain ⟨b, off, h1, h2, h3, h4⟩ := h i hi
  exact ⟨b, off, h1, cell_kept hb h2, cell_kept hb h3, h4⟩
theorem Rds.agr {w w' : World} {b : Nat} {S : List Nat} {l : List Rd} (h : Rds w (some ⟨b, 0, none⟩) l) (ha : Agr w w' S) (hb : b ∉ S) : Rds w' (some ⟨b, 0, none⟩) l := fun i hi => by
  obtain ⟨g, off, ho, c0, c1, c2, c3, c4⟩ := h i hi
  injection ho with ho
  injection ho with h1 h2
  subst h1 h2
  exact ⟨_, _, rfl, ha.cell c0 hb, ha.cell c1 hb, ha.cell c2 hb, ha.cell c3 hb, ha.cell c4 hb⟩
/-- The claim while minutes are metered. -/
@[reducible] def metC (c : ClA) (f t e : Int) (o : Option Addr) (cap : Nat) (sl : List (Int × Int)) : ClA := { c with od := none, cd := 0, rds := [], s := ⟨f, t, e, o, cap, sl⟩, b := BilA.zero }
@[reducible] def clZ : List Value := [.string ⟨#[]⟩, .slice none 0 0, .int .i64 0, .slice none 0 0, .slice none 0 0, .slice none 0 0, .int .u64 0, .int .i64 0, .int .i64 0, .int .i64 0, .slice none 0 0, .slice none 0 0, .int .i64 0, .int .i64 0, .int .i64 0]
@[reducible] def clW (c : ClA) (f t e : Int) (v : Value) : List Value := [.string c.nm, .slice c.oa c.arts.length c.ca, .int .i64 c.off, .slice c.oc c.chg.length c.cc, .slice c.oh c.hol.length c.ch, .slice none 0 0, .int .u64 (c.seed : Nat), .int .i64 f, .int .i64 t, .int .i64 e, v, .slice none 0 0, .int .i64 0, .int .i64 0, .int .i64 0]
structure Bs (w : World) (T C0 B0 B1 CB MB : Nat) : Prop where
  t : T = w.heap.size
  c : C0 = T + 1
  b0 : B0 = C0 + 1
  b1 : B1 = B0 + 1
  cb : CB = B1 + 1
  mb : MB = CB + 1
structure MSt (w wr : World) (T C0 B0 B1 CB MB : Nat) (c : ClA) (f t e : Int) (v : Value) (sl : List (Int × Int)) (r : Int) : Prop where
  bt : Blk wr T 24 #[.string c.nm, .slice c.oa c.arts.length c.ca]
  bc : Blk wr C0 28 #[.int .i64 c.off, .slice c.oc c.chg.length c.cc, .slice c.oh c.hol.length c.ch]
  r0 : Blk wr B0 41 clZ.toArray
  r1 : Blk wr B1 43 #[.int .i64 0, .int .i64 0, .bool false]
  cl : Blk wr CB 41 (clW c f t e v).toArray
  mt : Blk wr MB 43 #[.int .i64 1, .int .i64 r, .bool false]
  row : wr.ownsRow (MB + 1) 50 2 v sl.length (flatT sl)
  below : Below w.heap.size w wr
section
variable {w wr w' : World} {T C0 B0 B1 CB MB : Nat} {c : ClA} {f t e : Int} {v : Value} {sl : List (Int × Int)} {r r' : Int}
theorem MSt.later (h : MSt w wr T C0 B0 B1 CB MB c f t e v sl r) (hb : Below wr.heap.size wr w') : MSt w w' T C0 B0 B1 CB MB c f t e v sl r :=
  ⟨h.bt.later hb, h.bc.later hb, h.r0.later hb, h.r1.later hb, h.cl.later hb, h.mt.later hb, ownsRow_later h.row hb, below_step h.below hb⟩
theorem ownsRow_agr {W W' : World} {base : Nat} {e : TypeId} {size : Nat} {v : Value} {n : Nat} {xs : List Value} {S : List Nat} (h : W.ownsRow base e size v n xs) (ha : Agr W W' S) (hS : ∀ b ∈ S, b < base) : W'.ownsRow base e size v n xs := by
  refine ⟨h.1, ?_⟩
  rcases h.2 with h0 | ⟨g, cap, cur, hv, hg, hb, h2⟩
  · exact .inl h0
  · exact .inr ⟨g, cap, cur, hv, hg, (ha.block g (Array.getElem?_eq_some_iff.1 hb).1 (fun hm => by have := hS g hm; omega)).trans hb, h2⟩
/-- The meter counts. -/
theorem MSt.meter (h : MSt w wr T C0 B0 B1 CB MB c f t e v sl r) (hB : Bs w T C0 B0 B1 CB MB) (ha : Agr wr w' [MB]) (hm : Blk w' MB 43 #[.int .i64 1, .int .i64 r', .bool false]) : MSt w w' T C0 B0 B1 CB MB c f t e v sl r' :=
  have h1 := hB.t
  have h2 := hB.c
  have h3 := hB.b0
  have h4 := hB.b1
  have h5 := hB.cb
  have h6 := hB.mb
  have n : ∀ b, b < MB → b ∉ [MB] := fun b hb hm => by have := List.mem_singleton.1 hm; omega
  ⟨ha.blk h.bt (n _ (by omega)), ha.blk h.bc (n _ (by omega)), ha.blk h.r0 (n _ (by omega)), ha.blk h.r1 (n _ (by omega)), ha.blk h.cl (n _ (by omega)), hm, ownsRow_agr h.row ha (fun b hb => by have := List.mem_singleton.1 hb; omega), ha.below h.below (fun b hb => by have := List.mem_singleton.1 hb; omega)⟩
/-- A cell of the claim is written. -/
theorem MSt.claim {t' e' : Int} {i : Nat} {u : Value} (h : MSt w wr T C0 B0 B1 CB MB c f t e v sl r) (hB : Bs w T C0 B0 B1 CB MB) (hc : (clW c f t e v).toArray.setIfInBounds i u = (clW c f t' e' v).toArray) : MSt w (wr.setCell ⟨CB, i, none⟩ u) T C0 B0 B1 CB MB c f t' e' v sl r :=
  have h1 := hB.t
  have h2 := hB.c
  have h3 := hB.b0
  have h4 := hB.b1
  have h5 := hB.cb
  have h6 := hB.mb
  have ha : Agr wr (wr.setCell ⟨CB, i, none⟩ u) [CB] := agr_set
  have n : ∀ b, b ≠ CB → b ∉ [CB] := fun b hb hm => hb (List.mem_singleton.1 hm)
  ⟨ha.blk h.bt (n _ (by omega)), ha.blk h.bc (n _ (by omega)), ha.blk h.r0 (n _ (by omega)), ha.blk h.r1 (n _ (by omega)), by rw [← hc]; exact h.cl.set i u, ha.blk h.mt (n _ (by omega)), ownsRow_agr h.row ha (fun b hb => by have := List.mem_singleton.1 hb; omega), ha.below h.below (fun b hb => by have := List.mem_singleton.1 hb; omega)⟩
end
/-- The readings, apart from all that is written. -/
structure LSt (wr : World) (MB : Nat) (v : Value) (vl : Value) (l : List Rd) : Prop where
  ex : ∃ bl cap, vl = .slice (some ⟨bl, 0, none⟩) l.length cap ∧ Rds wr (some ⟨bl, 0, none⟩) l ∧ MB < bl ∧ bl < wr.heap.size ∧ (∀ kk, v.ownBlock = some kk → kk ≠ bl)
theorem LSt.later {wr w' : World} {MB : Nat} {v vl : Value} {l : List Rd} (h : LSt wr MB v vl l) (hb : Below wr.heap.size wr w') : LSt w' MB v vl l := by
  obtain ⟨bl, cap, h1, h2, h3, h4, h5⟩ := h.ex
  exact ⟨bl, cap, h1, h2.later hb, h3, Nat.lt_of_lt_of_le h4 hb.size, h5⟩
theorem LSt.agr {wr w' : World} {MB : Nat} {v vl : Value} {l : List Rd} {S : List Nat} (h : LSt wr MB v vl l) (ha : Agr wr w' S) (hS : ∀ b ∈ S, b ≤ MB) : LSt w' MB v vl l := by
  obtain ⟨bl, cap, h1, h2, h3, h4, h5⟩ := h.ex
  exact ⟨bl, cap, h1, h2.agr ha (fun hm => by have := hS bl hm; omega), h3, Nat.lt_of_lt_of_le h4 ha.size, h5⟩

/-- What an append left: the readings, or an error. -/
def LOut (seed : Nat) (hs : seed < 18446744073709551616) (ms : List (Nat × Nat)) (f : Int) (k : Nat) (wr : World) (MB : Nat) (v : Value) (e : Int) (vl : Value) : Prop :=
  (apOk f k = true ∧ e = 0 ∧ LSt wr MB v vl (metL seed hs ms f k)) ∨ (apOk f k = false ∧ (e == 0) = false ∧ vl = .slice none 0 0)
theorem LOut.later {seed : Nat} {hs : seed < 18446744073709551616} {ms : List (Nat × Nat)} {f : Int} {k : Nat} {wr w' : World} {MB : Nat} {v : Value} {e : Int} {vl : Value} (h : LOut seed hs ms f k wr MB v e vl) (hb : Below wr.heap.size wr w') : LOut seed hs ms f k w' MB v e vl := by
  rcases h with ⟨h1, h2, h3⟩ | h
  · exact .inl ⟨h1, h2, h3.later hb⟩
  · exact .inr h
theorem app_first {seed : Nat} {hs : seed < 18446744073709551616} {ms : List (Nat × Nat)} {f : Int} {MB : Nat} {W W' : World} {e' : Ending} (h : AppOut seed [] 1 f 0 hs W e' W') (hM : MB < W.heap.size) : ∃ (e : Int) (vl : Value), e' = .returned (.tuple #[vl, .int .i64 e]) ∧ LOut seed hs ms f 0 W' MB (.slice none 0 0) e vl := by
  obtain ⟨hb, ⟨he, rfl⟩ | ⟨he, b, cap, hb1, hcap, rfl, hr⟩⟩ := h
  · refine ⟨_, _, rfl, .inr ⟨?_, by simpa using he, rfl⟩⟩
    rw [first_err] at he
    rw [← Bool.not_eq_true, apOk_iff]
    intro h
    exact he (if_pos ⟨h.1, by omega⟩)
  · refine ⟨_, _, rfl, .inl ⟨?_, rfl, ⟨b, cap, rfl, hr, by omega, ?_, fun kk hk => by cases hk⟩⟩⟩
    · rw [first_err] at he
      rw [apOk_iff]
      split at he
      · omega
      · cases he
    · obtain ⟨g, off, ho, c0, _⟩ := hr 0 (by simp)
      injection ho with ho
      injection ho with h1 _
      subst h1
      exact cell_lt c0
theorem app_next {seed : Nat} {hs : seed < 18446744073709551616} {ms : List (Nat × Nat)} {f : Int} {k MB : Nat} {v : Value} {W W' : World} {e' : Ending} (h : AppOut seed (metL seed hs ms f k) 1 (f + ((k + 1 : Nat) : Int)) (whN ms (k + 1)) hs W e' W') (ho : apOk f k = true) (hk : k < 40) (hM : MB < W.heap.size) (hv : ∀ kk, v.ownBlock = some kk → kk < W.heap.size) : ∃ (e : Int) (vl : Value), e' = .returned (.tuple #[vl, .int .i64 e]) ∧ LOut seed hs ms f (k + 1) W' MB v e vl := by
  rw [apOk_iff] at ho
  have hnx := met_next seed hs ms f ho.1 k hk ho.2
  have hln := metL_len seed hs ms f k
  obtain ⟨hb, ⟨he, rfl⟩ | ⟨he, b, cap, hb1, hcap, he2, hr⟩⟩ := h
  · refine ⟨_, _, rfl, .inr ⟨?_, by simpa using he, rfl⟩⟩
    rw [← Bool.not_eq_true, apOk_iff]
    intro h
    exact he (hnx.2 h.2)
  · have hr' : Rds W' (some ⟨b, 0, none⟩) (metL seed hs ms f (k + 1)) := hr
    rw [hln] at he2
    refine ⟨_, _, he2, .inl ⟨apOk_iff.2 ⟨ho.1, hnx.1 he⟩, rfl, ⟨b, cap, by rw [metL_len], hr', by omega, ?_, fun kk hk => by have := hv kk hk; omega⟩⟩⟩
    obtain ⟨g, off, ho, c0, _⟩ := hr' 0 (by rw [metL_len]; omega)
    injection ho with ho
    injection ho with h1 _
    subst h1
    exact cell_lt c0
theorem MSt.appended {w wr w4 : World} {T C0 B0 B1 CB MB : Nat} {c : ClA} {f t e : Int} {v v2 : Value} {sl : List (Int × Int)} {x : Int × Int} {r : Int} {o : Obj} (h : MSt w wr T C0 B0 B1 CB MB c f t e v sl r) (hB : Bs w T C0 B0 B1 CB MB) (hg : (wr.alloc o).grownBy w4 v.ownBlock) (hr : w4.ownsRow (MB + 1) 50 2 v2 (sl.length + 1) (flatT (sl ++ [x]))) : MSt w (w4.setCell ⟨CB, 10, none⟩ v2) T C0 B0 B1 CB MB c f t e v2 (sl ++ [x]) r := by
  have h1 := hB.t
  have h2 := hB.c
  have h3 := hB.b0
  have h4 := hB.b1
  have h5 := hB.cb
  have h6 := hB.mb
  have hob : ∀ kk, v.ownBlock = some kk → MB + 1 ≤ kk := fun kk e => (h.row.lt kk e).1
  have h0 := h.later (below_alloc (Below.refl _ _) o)
  have kp : ∀ {g : Nat} {ty : TypeId} {cs : Array Value}, Blk (wr.alloc o) g ty cs → g ≤ MB → Blk w4 g ty cs := fun hb hle => (hg.block _ hb.lt (fun e => by have := hob _ e.symm; omega)).trans hb
  exact ⟨(kp h0.bt (by omega)).other (p := ⟨CB, 10, none⟩) (by dsimp only; omega) _, (kp h0.bc (by omega)).other (p := ⟨CB, 10, none⟩) (by dsimp only; omega) _, (kp h0.r0 (by omega)).other (p := ⟨CB, 10, none⟩) (by dsimp only; omega) _, (kp h0.r1 (by omega)).other (p := ⟨CB, 10, none⟩) (by dsimp only; omega) _, by have := (kp h0.cl (by omega)).set 10 v2; simpa using this, (kp h0.mt (by omega)).other (p := ⟨CB, 10, none⟩) (by dsimp only; omega) _, by rw [List.length_append]; exact ownsRow_setCell_below hr (by dsimp only; omega) _, (h0.below.grown hg h0.below.size (fun k e => by have := hob k e; omega)).setCell (by dsimp only; omega) _⟩
theorem LSt.appended {wr w4 : World} {CB MB : Nat} {v v2 vl : Value} {l : List Rd} {o : Obj} (h : LSt wr MB v vl l) (hg : (wr.alloc o).grownBy w4 v.ownBlock) (hcb : CB ≤ MB) (hat : v2.ownBlock = v.ownBlock ∨ v2.ownBlock = some (wr.heap.size + 1)) (u : Value) : LSt (w4.setCell ⟨CB, 10, none⟩ u) MB v2 vl l := by
  obtain ⟨bl, cap, h1, h2, h3, h4, h5⟩ := h.ex
  have h6 : Rds (wr.alloc o) (some ⟨bl, 0, none⟩) l := h2.later (below_alloc (Below.refl _ _) o)
  have ha : Agr (wr.alloc o) w4 v.ownBlock.toList := ⟨hg.os, hg.tape, hg.output, hg.size, fun k hk hS => hg.block k hk (fun e => hS (by rw [← e]; simp))⟩
  have hnm : bl ∉ v.ownBlock.toList := fun hm => by
    cases hv : v.ownBlock with
    | none => rw [hv] at hm; simp at hm
    | some kk => rw [hv] at hm; simp at hm; exact h5 kk hv hm.symm
  have hbl : bl ≠ CB := by omega
  refine ⟨bl, cap, h1, (h6.agr ha hnm).agr (agr_set (g := CB)) (fun hm => hbl (List.mem_singleton.1 hm)), h3, ?_, fun kk hk => ?_⟩
  · rw [World.size_setCell]
    exact Nat.lt_of_lt_of_le h4 (Nat.le_trans (by rw [World.size_alloc]; omega) hg.size)
  · rcases hat with hat | hat
    · exact h5 kk (by rw [← hat]; exact hk)
    · rw [hat] at hk
      injection hk with hk
      omega
theorem billOk_at {c : ClA} {f t e : Int} {os : Option Addr} {cs : Nat} {l : List (Int × Int)} : billOk c ⟨f, t, e, none, 0, l⟩ = billOk c ⟨f, t, e, os, cs, l⟩ := by
  have hl : ∀ k, linA c ⟨f, t, e, none, 0, l⟩ k = linA c ⟨f, t, e, os, cs, l⟩ k := linA_eq rfl rfl rfl rfl rfl rfl rfl rfl
  unfold billOk sumOk linOk netB
  rw [hl]
  rfl
theorem Blk.setAll' {b : Nat} {t : TypeId} : ∀ (vs pre rest : List Value) (W : World), Blk W b t (pre ++ rest).toArray → rest.length = vs.length → Blk (W.setCells b pre.length vs) b t (pre ++ vs).toArray
  | [], pre, rest, W, h, hl => by
    obtain rfl : rest = [] := List.eq_nil_of_length_eq_zero hl
    exact h
  | v :: vs, pre, rest, W, h, hl => by
    cases rest with
    | nil => cases hl
    | cons r rest =>
      have h2 : Blk (W.setCell ⟨b, pre.length, none⟩ v) b t ((pre ++ [v]) ++ rest).toArray := by
        have := h.set pre.length v
        rw [List.setIfInBounds_toArray, List.set_append_right _ _ (Nat.le_refl _), Nat.sub_self] at this
        simpa using this
      have := Blk.setAll' vs (pre ++ [v]) rest _ h2 (by simpa using hl)
      rw [List.length_append, List.length_singleton] at this
      have e : (pre ++ [v] ++ vs) = pre ++ v :: vs := by simp
      rw [e] at this
      exact this
theorem Blk.setAll {b : Nat} {t : TypeId} {cs vs : List Value} {W : World} (h : Blk W b t cs.toArray) (hl : cs.length = vs.length) : Blk (W.setCells b 0 vs) b t vs.toArray := Blk.setAll' vs [] cs W h hl
theorem Blk.otherAll {b g : Nat} {t : TypeId} {cs : Array Value} {W : World} (hg : g ≠ b) (vs : List Value) (h : Blk W g t cs) : Blk (W.setCells b 0 vs) g t cs := (heap_setCells b vs 0 W g hg).trans h
theorem Agr.setAll {W0 W : World} {S : List Nat} {b : Nat} (hb : b ∈ S) (vs : List Value) (h : Agr W0 W S) : Agr W0 (W.setCells b 0 vs) S := by
  obtain ⟨h1, h2, h3⟩ := same_setCells b vs 0 W
  exact ⟨h1.trans h.os, h2.trans h.tape, h3.trans h.output, by rw [size_setCells]; exact h.size, fun k hk hS => (heap_setCells b vs 0 W k (fun e => hS (e ▸ hb))).trans (h.block k hk hS)⟩
/-- A struct is stored whole. -/
theorem exec_store_all {P : Program} {o : Oper} {V : Act} {W : World} (ty : TypeId) (x y : Operand) (ho : o.op = .store ty x y) (b : Nat) (t : TypeId) (cs vs : List Value) (hx : V.eval x = .pointer (some ⟨b, 0, none⟩)) (hy : V.eval y = .agg vs.toArray) (hb : Blk W b t cs.toArray) (hl : cs.length = vs.length) (hi : (P.info? ty).map (·.size) = some vs.toArray.size) (h1 : vs.toArray.all (·.oneCell') = true) : (execOp V.eval o).run P W = .ok .skip (W.setCells b 0 vs) := by
  have ht : W.there b 0 vs.toArray.size := fun j hj => by
    have hj2 : j < cs.length := by rw [hl]; simpa using hj
    rw [Nat.zero_add]
    exact ⟨by rw [hb.cell j]; simp [hj2], hb.frozen j⟩
  unfold execOp
  simp only [ho, hx, hy, Instr.storeAt, Instr.sureAddr, Sem.run_bind, Sem.run_pure, Result.andThen_ok, run_storeVar_mid W b 0 ty vs.toArray ht hi h1]
theorem wpC_skipN {P : Program} {ops : Array Oper} {J : World → Prop} {Q : Exit → Act → World → Prop} {V : Act} {w w' : World} {o : Oper} {i : Nat} {C : List Nat} (ho : ops[i]? = some o) (hg : o.guard = none) (hd : o.dst = none) (hJ : J w) (hr : (execOp V.eval o).run P w = .ok .skip w') (h : wpC P ops J Q C V w') : wpC P ops J Q (i :: C) V w :=
  wpC_skip ho hg hJ hr (by rw [hd]; exact h)
theorem wpC_runD {P : Program} {ops : Array Oper} {J : World → Prop} {Q : Exit → Act → World → Prop} {V : Act} {w w' : World} {o : Oper} {i : Nat} {C : List Nat} {v : Value} (d : Tmp) (ho : ops[i]? = some o) (hg : o.guard = none) (hd : o.dst = some d) (hJ : J w) (hr : (execOp V.eval o).run P w = .ok (.value v) w') (h : wpC P ops J Q C (V.put (some d) v) w') : wpC P ops J Q (i :: C) V w :=
  wpC_run ho hg hJ hr (by rw [hd]; exact h)
structure FinS (w W : World) (B0 B1 : Nat) : Prop where
  r0 : Blk W B0 41 clZ.toArray
  r1 : Blk W B1 43 #[.int .i64 0, .int .i64 0, .bool false]
  below : Below w.heap.size w W
def MetOut (c : ClA) (hs : c.seed < 18446744073709551616) (f : Int) (ms : List (Nat × Nat)) (w : World) (e : Ending) (w' : World) : Prop := Below w.heap.size w w' ∧
  ((metOk c f ms = true ∧ ∃ od cd os cs ob cb, e = .returned (.tuple #[.agg (clL (claimM c hs f ms od cd os cs ob cb)).toArray, metV (regW ms ms.length), .bool true]) ∧ ClM w' (claimM c hs f ms od cd os cs ob cb)) ∨
   (metOk c f ms = false ∧ ∃ (c' : ClA) (r' : Int), e = .returned (.tuple #[.agg (clL c').toArray, metV r', .bool false])))

set_option maxRecDepth 100000 in
set_option maxHeartbeats 32000000 in
theorem metered_any (w : World) (c : ClA) (hs : c.seed < 18446744073709551616) (f : Int) (om : Option Addr) (cm : Nat) (ms : List (Nat × Nat)) (hA : Arts w c.oa c.arts) (hC : CalM w c) (hM : MinM w om ms) (hK : ms.length ≤ 40) (hf0 : -9223372036854775808 ≤ f) (hf1 : f ≤ 9223372036854775807) (hnm : c.nm.size ≤ 9000000000000000000) (hna : c.arts.length ≤ 9000000000000000000) (hnc : c.chg.length ≤ 9000000000000000000) (hnh : c.hol.length ≤ 9000000000000000000) : Calls Tryz.prog 8 #[.agg #[.string c.nm, .slice c.oa c.arts.length c.ca], .agg #[.int .i64 c.off, .slice c.oc c.chg.length c.cc, .slice c.oh c.hol.length c.ch], .int .u64 (c.seed : Nat), .int .i64 f, .slice om ms.length cm] w (MetOut c hs f ms w) := by
  have HA := Lib.hid hA
  have HC := Lib.hid hC
  have HM := Lib.hid hM
  clear hA hC hM
  have HOUT := Lib.hid (fun (e : Ending) (w' : World) (h : MetOut c hs f ms w e w') => h)
  obtain ⟨OUT, hO⟩ : ∃ O, O = MetOut c hs f ms w := ⟨_, rfl⟩
  rw [← hO]
  replace HOUT := Lib.hid (fun (e : Ending) (w' : World) (h : MetOut c hs f ms w e w') => show OUT e w' by rw [hO]; exact h)
  clear hO
  go_enter Tryz.func8, Tryz.ntmps8
  go_upto_region 3 with (fail)
  obtain ⟨wa, hwa⟩ : ∃ W, W = w.alloc (.cells #[.string c.nm, .slice c.oa c.arts.length c.ca] 24) := ⟨_, rfl⟩
  obtain ⟨wb, hwb⟩ : ∃ W, W = wa.alloc (.cells #[.int .i64 c.off, .slice c.oc c.chg.length c.cc, .slice c.oh c.hol.length c.ch] 28) := ⟨_, rfl⟩
  obtain ⟨wd, hwd⟩ : ∃ W, W = wb.alloc (.cells clZ.toArray 41) := ⟨_, rfl⟩
  obtain ⟨we, hwe⟩ : ∃ W, W = wd.alloc (.cells #[.int .i64 0, .int .i64 0, .bool false] 43) := ⟨_, rfl⟩
  obtain ⟨wf, hwf⟩ : ∃ W, W = we.alloc (.cells (clW c f f f (.slice none 0 0)).toArray 41) := ⟨_, rfl⟩
  obtain ⟨W1, hW1⟩ : ∃ W, W = wf.alloc (.cells #[.int .i64 1, .int .i64 0, .bool false] 43) := ⟨_, rfl⟩
  have hsa : wa.heap.size = w.heap.size + 1 := by rw [hwa, World.size_alloc]
  have hsb : wb.heap.size = w.heap.size + 1 + 1 := by rw [hwb, World.size_alloc, hsa]
  have hsd : wd.heap.size = w.heap.size + 1 + 1 + 1 := by rw [hwd, World.size_alloc, hsb]
  have hse : we.heap.size = w.heap.size + 1 + 1 + 1 + 1 := by rw [hwe, World.size_alloc, hsd]
  have hsf : wf.heap.size = w.heap.size + 1 + 1 + 1 + 1 + 1 := by rw [hwf, World.size_alloc, hse]
  have HS : Hid (MSt w W1 w.heap.size (w.heap.size + 1) (w.heap.size + 1 + 1) (w.heap.size + 1 + 1 + 1) (w.heap.size + 1 + 1 + 1 + 1) (w.heap.size + 1 + 1 + 1 + 1 + 1) c f f f (.slice none 0 0) [] 0) := Lib.hid
    ⟨by rw [hW1, hwf, hwe, hwd, hwb]; refine Blk.alloc (Blk.alloc (Blk.alloc (Blk.alloc (Blk.alloc ?_ _) _) _) _) _; rw [hwa]; exact Blk.new _ _ _,
     by rw [hW1, hwf, hwe, hwd]; refine Blk.alloc (Blk.alloc (Blk.alloc (Blk.alloc ?_ _) _) _) _; rw [hwb, ← hsa]; exact Blk.new _ _ _,
     by rw [hW1, hwf, hwe]; refine Blk.alloc (Blk.alloc (Blk.alloc ?_ _) _) _; rw [hwd, ← hsb]; exact Blk.new _ _ _,
     by rw [hW1, hwf]; refine Blk.alloc (Blk.alloc ?_ _) _; rw [hwe, ← hsd]; exact Blk.new _ _ _,
     by rw [hW1]; refine Blk.alloc ?_ _; rw [hwf, ← hse]; exact Blk.new _ _ _,
     by rw [hW1, ← hsf]; exact Blk.new _ _ _, World.ownsRow_nil .., by rw [hW1, hwf, hwe, hwd, hwb, hwa]; exact below_alloc (below_alloc (below_alloc (below_alloc (below_alloc (below_alloc (Below.refl _ _) _) _) _) _) _) _⟩
  have hSW : W1 = (((((w.alloc (.cells #[.string c.nm, .slice c.oa c.arts.length c.ca] 24)).alloc (.cells #[.int .i64 c.off, .slice c.oc c.chg.length c.cc, .slice c.oh c.hol.length c.ch] 28)).alloc (.cells clZ.toArray 41)).alloc (.cells #[.int .i64 0, .int .i64 0, .bool false] 43)).alloc (.cells (clW c f f f (.slice none 0 0)).toArray 41)).alloc (.cells #[.int .i64 1, .int .i64 0, .bool false] 43) := by rw [hW1, hwf, hwe, hwd, hwb, hwa]
  obtain ⟨MB, hMB⟩ : ∃ B, B = w.heap.size + 1 + 1 + 1 + 1 + 1 := ⟨_, rfl⟩
  obtain ⟨CB, hCB⟩ : ∃ B, B = w.heap.size + 1 + 1 + 1 + 1 := ⟨_, rfl⟩
  obtain ⟨B1, hB1⟩ : ∃ B, B = w.heap.size + 1 + 1 + 1 := ⟨_, rfl⟩
  obtain ⟨B0, hB0⟩ : ∃ B, B = w.heap.size + 1 + 1 := ⟨_, rfl⟩
  obtain ⟨C0, hC0⟩ : ∃ B, B = w.heap.size + 1 := ⟨_, rfl⟩
  obtain ⟨T, hT⟩ : ∃ B, B = w.heap.size := ⟨_, rfl⟩
  have HBS : Hid (Bs w T C0 B0 B1 CB MB) := Lib.hid ⟨hT, by rw [hC0, hT], by rw [hB0, hC0], by rw [hB1, hB0], by rw [hCB, hB1], by rw [hMB, hCB]⟩
  show Code.wp _ _ _ _ ((((((w.alloc (.cells #[.string c.nm, .slice c.oa c.arts.length c.ca] 24)).alloc (.cells #[.int .i64 c.off, .slice c.oc c.chg.length c.cc, .slice c.oh c.hol.length c.ch] 28)).alloc (.cells clZ.toArray 41)).alloc (.cells #[.int .i64 0, .int .i64 0, .bool false] 43)).alloc (.cells (clW c f f f (.slice none 0 0)).toArray 41)).alloc (.cells #[.int .i64 1, .int .i64 0, .bool false] 43))
  rw [← hSW]
  rw [← hMB, ← hCB, ← hB1, ← hB0, ← hC0, ← hT] at HS
  rw [← hMB, ← hCB, ← hB1, ← hB0, ← hC0, ← hT]
  clear hMB hCB hB1 hB0 hC0 hT hSW hW1 hwf hwe hwd hwb hwa hsa hsb hsd hse hsf
  have HS1 := Lib.hid HS.out.mt.lt
  go_wp2_with fail
  refine (Append_any c.seed none 0 [] 1 f 0 W1 hs (Rds.nil) (by decide)).mono ?_
  rintro _ W2 happ
  have HB12 := Lib.hid happ.1
  replace HS := Lib.hid (HS.out.later HB12.out)
  obtain ⟨er, vl, rfl, hlo⟩ := app_first (ms := ms) (MB := MB) happ HS1.out
  have HLO := Lib.hid hlo
  clear happ hlo HS1 HB12
  have HM2 := Lib.hid (fun w' (hb : Below w.heap.size w w') => HM.out.later hb)
  go_upto_region 4 with (fail)
  go_cut [17] from 26 to 42 (fun a wx => a = .int .i64 0 ∧ W2 = wx)
  case first =>
    go_wp2
    go_meet
    case rel => exact ⟨rfl, rfl⟩
  case rest =>
  obtain ⟨rfl, rfl⟩ := hcut
  go_wp2
  go_loopw [15, 16, 17, 43] (fun vl ev n i wr => ∃ (k : Nat) (er : Int) (v : Value), k ≤ ms.length ∧ i = .int .i64 k ∧ ev = .int .i64 er ∧ n = .int .i64 (whN ms k) ∧ MSt w wr T C0 B0 B1 CB MB c f (f + k) (metE ms f k) v (metS ms f k) (regW ms k) ∧ LOut c.seed hs ms f k wr MB v er vl ∧ (0 < k → apOk f (k - 1) = true)) (fun _ _ _ i _ => ms.length - (intOf i).toNat)
  case atStart => exact ⟨0, er, _, Nat.zero_le _, rfl, rfl, by simp [whN, regW], by simpa [metE, metS, regW] using HS.out, HLO.out, fun h => absurd h (Nat.lt_irrefl 0)⟩
  case round =>
    clear HS HLO
    obtain ⟨k, er, v, hk, rfl, rfl, rfl, hst, hlo, hpr⟩ := hrel
    obtain ⟨wA, rfl⟩ : ∃ wA : World, wA = wr := ⟨_, rfl⟩
    obtain ⟨os, cs, rfl, _⟩ := ownsRow_shape' hst.row
    have HS := Lib.hid hst
    have HLO := Lib.hid hlo
    have HPR := Lib.hid hpr
    clear hst hlo hpr
    by_cases hlt : k < ms.length
    · obtain ⟨bm, fm, hom, x0, x1, hx0, hx1⟩ := (HM2.out _ HS.out.below) k hlt
      have HWV := Lib.hid (show regW ms (k + 1) = regW ms k + 6 * wOf (ms.getD k (0, 0)) from rfl)
      have HWO := Lib.hid (wOf_bound (ms.getD k (0, 0)))
      have HWD := Lib.hid (show wOf (ms.getD k (0, 0)) = 2300 * (((ms.getD k (0, 0)).1 : Int) % 81) * (((ms.getD k (0, 0)).2 : Int) % 4) from rfl)
      obtain ⟨x, hx⟩ : ∃ x, ms.getD k (0, 0) = x := ⟨_, rfl⟩
      rw [hx] at x0 x1 hx0 hx1 HWV HWO HWD
      clear hx
      rw [hom]
      have y1 : (0 : Int) ≤ (k : Int) := by omega
      have y2 : (k : Int) < (ms.length : Int) := by omega
      go_upto_region 8 with (fail)
      obtain ⟨W3, hW3⟩ : ∃ W, W = wA.alloc (.cells #[.int .u8 (x.1 : Nat), .int .u8 (x.2 : Nat)] 73) := ⟨_, rfl⟩
      have HX := Lib.hid (show Blk W3 wA.heap.size 73 #[.int .u8 (x.1 : Nat), .int .u8 (x.2 : Nat)] by rw [hW3]; exact Blk.new _ _ _)
      have HB3 := Lib.hid (show Below wA.heap.size wA W3 by rw [hW3]; exact below_alloc (Below.refl _ _) _)
      try rw [← hW3]
      clear hW3 x0 x1
      have HXM := Lib.hid HS.out.mt.lt
      replace HS := Lib.hid (HS.out.later HB3.out)
      replace HLO := Lib.hid (HLO.out.later HB3.out)
      clear HB3
      obtain ⟨X, hX⟩ : ∃ X, wA.heap.size = X := ⟨_, rfl⟩
      rw [hX] at HXM
      try rw [hX] at HX ⊢
      clear hX
      by_cases hap : apOk f k = true
      rotate_left
      · -- the readings end here
        have her : (er == 0) = false := by
          rcases HLO.out with ⟨h, _⟩ | ⟨_, h, _⟩
          · exact absurd h hap
          · exact h
        have her' : (er != 0) = true := by unfold bne; rw [her]; rfl
        have HNO := Lib.hid (show metOk c f ms = false by
          unfold metOk
          rw [Bool.and_eq_false_iff]
          left
          rw [← Bool.not_eq_true, apOk_iff]
          rw [apOk_iff] at hap
          intro h
          exact hap ⟨h.1, by omega⟩)
        clear hap
        go_upto_region 9 with (fail)
        have HCB := Lib.hid HS.out.cl
        have HM4 := Lib.hid HS.out.mt
        have HS4 : Hid (FinS w W3 B0 B1) := Lib.hid ⟨HS.out.r0, HS.out.r1, HS.out.below⟩
        have HFIN := Lib.hid (fun Wz (ha : Agr W3 Wz [B0, B1]) => HOUT.out (.returned (.tuple #[.agg #[.string c.nm, .slice c.oa c.arts.length c.ca, .int .i64 c.off, .slice c.oc c.chg.length c.cc, .slice c.oh c.hol.length c.ch, .slice none 0 0, .int .u64 (c.seed : Nat), .int .i64 f, .int .i64 (f + (k : Int)), .int .i64 (metE ms f k), .slice os (metS ms f k).length cs, .slice none 0 0, .int .i64 0, .int .i64 0, .int .i64 0], .agg #[.int .i64 1, .int .i64 (regW ms k), .bool false], .bool false])) Wz ⟨ha.below HS.out.below (fun b hb => by have h1 := HBS.out.t; have h2 := HBS.out.c; have h3 := HBS.out.b0; have h4 := HBS.out.b1; simp at hb; omega), .inr ⟨HNO.out, metC c f (f + (k : Int)) (metE ms f k) os cs (metS ms f k), regW ms k, rfl⟩⟩)
        have g1 : ¬ CB = B0 := by have := HBS.out.b1; have := HBS.out.cb; have := HBS.out.mb; omega
        have g2 : ¬ MB = B0 := by have := HBS.out.b1; have := HBS.out.cb; have := HBS.out.mb; omega
        have g3 : ¬ B1 = B0 := by have := HBS.out.b1; have := HBS.out.cb; have := HBS.out.mb; omega
        have g4 : ¬ B0 = B1 := by have := HBS.out.b1; have := HBS.out.cb; have := HBS.out.mb; omega
        have g5 : ¬ CB = B1 := by have := HBS.out.b1; have := HBS.out.cb; have := HBS.out.mb; omega
        have g6 : ¬ MB = B1 := by have := HBS.out.b1; have := HBS.out.cb; have := HBS.out.mb; omega
        have HJ := Lib.hid (fun w'' (ha : Agr W3 w'' [B0, B1]) => show w''.cell? ⟨CB, 0, none⟩ = some (.string c.nm) ∧ w''.cell? ⟨CB, 1, none⟩ = some (.slice c.oa c.arts.length c.ca) ∧ w''.cell? ⟨CB, 2, none⟩ = some (.int .i64 c.off) ∧ w''.cell? ⟨CB, 3, none⟩ = some (.slice c.oc c.chg.length c.cc) ∧ w''.cell? ⟨CB, 4, none⟩ = some (.slice c.oh c.hol.length c.ch) ∧ w''.cell? ⟨CB, 5, none⟩ = some (.slice none 0 0) ∧ w''.cell? ⟨CB, 6, none⟩ = some (.int .u64 (c.seed : Nat)) ∧ w''.cell? ⟨CB, 7, none⟩ = some (.int .i64 f) ∧ w''.cell? ⟨CB, 8, none⟩ = some (.int .i64 (f + (k : Int))) ∧ w''.cell? ⟨CB, 9, none⟩ = some (.int .i64 (metE ms f k)) ∧ w''.cell? ⟨CB, 10, none⟩ = some (.slice os (metS ms f k).length cs) ∧ w''.cell? ⟨CB, 11, none⟩ = some (.slice none 0 0) ∧ w''.cell? ⟨CB, 12, none⟩ = some (.int .i64 0) ∧ w''.cell? ⟨CB, 13, none⟩ = some (.int .i64 0) ∧ w''.cell? ⟨CB, 14, none⟩ = some (.int .i64 0) ∧ w''.cell? ⟨MB, 0, none⟩ = some (.int .i64 1) ∧ w''.cell? ⟨MB, 1, none⟩ = some (.int .i64 (regW ms k)) ∧ w''.cell? ⟨MB, 2, none⟩ = some (.bool false) from ⟨(ha.blk HCB.out (fun hm => by simp at hm; omega)).cell 0, (ha.blk HCB.out (fun hm => by simp at hm; omega)).cell 1, (ha.blk HCB.out (fun hm => by simp at hm; omega)).cell 2, (ha.blk HCB.out (fun hm => by simp at hm; omega)).cell 3, (ha.blk HCB.out (fun hm => by simp at hm; omega)).cell 4, (ha.blk HCB.out (fun hm => by simp at hm; omega)).cell 5, (ha.blk HCB.out (fun hm => by simp at hm; omega)).cell 6, (ha.blk HCB.out (fun hm => by simp at hm; omega)).cell 7, (ha.blk HCB.out (fun hm => by simp at hm; omega)).cell 8, (ha.blk HCB.out (fun hm => by simp at hm; omega)).cell 9, (ha.blk HCB.out (fun hm => by simp at hm; omega)).cell 10, (ha.blk HCB.out (fun hm => by simp at hm; omega)).cell 11, (ha.blk HCB.out (fun hm => by simp at hm; omega)).cell 12, (ha.blk HCB.out (fun hm => by simp at hm; omega)).cell 13, (ha.blk HCB.out (fun hm => by simp at hm; omega)).cell 14, (ha.blk HM4.out (fun hm => by simp at hm; omega)).cell 0, (ha.blk HM4.out (fun hm => by simp at hm; omega)).cell 1, (ha.blk HM4.out (fun hm => by simp at hm; omega)).cell 2⟩)
        refine wp_region_mask [2, 3, 4] [true, true, false, false, false] (fun w'' => w''.cell? ⟨CB, 0, none⟩ = some (.string c.nm) ∧ w''.cell? ⟨CB, 1, none⟩ = some (.slice c.oa c.arts.length c.ca) ∧ w''.cell? ⟨CB, 2, none⟩ = some (.int .i64 c.off) ∧ w''.cell? ⟨CB, 3, none⟩ = some (.slice c.oc c.chg.length c.cc) ∧ w''.cell? ⟨CB, 4, none⟩ = some (.slice c.oh c.hol.length c.ch) ∧ w''.cell? ⟨CB, 5, none⟩ = some (.slice none 0 0) ∧ w''.cell? ⟨CB, 6, none⟩ = some (.int .u64 (c.seed : Nat)) ∧ w''.cell? ⟨CB, 7, none⟩ = some (.int .i64 f) ∧ w''.cell? ⟨CB, 8, none⟩ = some (.int .i64 (f + (k : Int))) ∧ w''.cell? ⟨CB, 9, none⟩ = some (.int .i64 (metE ms f k)) ∧ w''.cell? ⟨CB, 10, none⟩ = some (.slice os (metS ms f k).length cs) ∧ w''.cell? ⟨CB, 11, none⟩ = some (.slice none 0 0) ∧ w''.cell? ⟨CB, 12, none⟩ = some (.int .i64 0) ∧ w''.cell? ⟨CB, 13, none⟩ = some (.int .i64 0) ∧ w''.cell? ⟨CB, 14, none⟩ = some (.int .i64 0) ∧ w''.cell? ⟨MB, 0, none⟩ = some (.int .i64 1) ∧ w''.cell? ⟨MB, 1, none⟩ = some (.int .i64 (regW ms k)) ∧ w''.cell? ⟨MB, 2, none⟩ = some (.bool false)) mixed (by kernel_rfl) ?_
        intro KR hR
        have HR := Lib.hid hR
        clear hR
        simp only [marked]
        apply wpM_val rfl
        · (intro w' hw'; obtain ⟨c0, c1, c2, c3, c4, c5, c6, c7, c8, c9, c10, c11, c12, c13, c14, c15, c16, c17⟩ := hw'; go_simp; with_reducible rfl)
        simp only [Act.put, List.setIfInBounds_toArray, List.set_cons_zero, List.set_cons_succ]
        apply wpM_val rfl
        · (intro w' hw'; obtain ⟨c0, c1, c2, c3, c4, c5, c6, c7, c8, c9, c10, c11, c12, c13, c14, c15, c16, c17⟩ := hw'; go_simp; with_reducible rfl)
        simp only [Act.put, List.setIfInBounds_toArray, List.set_cons_zero, List.set_cons_succ]
        refine wpM_nil (HR.out _ ?_)
        clear HR
        obtain ⟨X0, hX0⟩ : ∃ W, W = W3.drew := ⟨_, rfl⟩
        have HAg := Lib.hid (show Agr W3 X0 [B0, B1] by rw [hX0]; exact (Agr.refl _ _).later (Below.refl _ _).drew)
        have HRa : Hid (Blk X0 B0 41 #[.string ⟨#[]⟩, .slice none 0 0, .int .i64 0, .slice none 0 0, .slice none 0 0, .slice none 0 0, .int .u64 0, .int .i64 0, .int .i64 0, .int .i64 0, .slice none 0 0, .slice none 0 0, .int .i64 0, .int .i64 0, .int .i64 0]) := Lib.hid (by rw [hX0]; exact HS4.out.r0.drew)
        have HRb : Hid (Blk X0 B1 43 #[.int .i64 0, .int .i64 0, .bool false]) := Lib.hid (by rw [hX0]; exact HS4.out.r1.drew)
        rw [← hX0]
        clear hX0 HS4
        refine wpC_skipN rfl rfl rfl (HJ.out _ HAg.out) (exec_store_all 41 _ _ rfl B0 41 [.string ⟨#[]⟩, .slice none 0 0, .int .i64 0, .slice none 0 0, .slice none 0 0, .slice none 0 0, .int .u64 0, .int .i64 0, .int .i64 0, .int .i64 0, .slice none 0 0, .slice none 0 0, .int .i64 0, .int .i64 0, .int .i64 0] [.string c.nm, .slice c.oa c.arts.length c.ca, .int .i64 c.off, .slice c.oc c.chg.length c.cc, .slice c.oh c.hol.length c.ch, .slice none 0 0, .int .u64 (c.seed : Nat), .int .i64 f, .int .i64 (f + (k : Int)), .int .i64 (metE ms f k), .slice os (metS ms f k).length cs, .slice none 0 0, .int .i64 0, .int .i64 0, .int .i64 0] rfl rfl HRa.out rfl (by kernel_rfl) (all_oneCell_toArray (by intro u hu; simp only [List.mem_cons, List.not_mem_nil, or_false] at hu; rcases hu with rfl | rfl | rfl | rfl | rfl | rfl | rfl | rfl | rfl | rfl | rfl | rfl | rfl | rfl | rfl <;> rfl))) ?_
        obtain ⟨X1, hX⟩ : ∃ W, W = X0.setCells B0 0 [.string c.nm, .slice c.oa c.arts.length c.ca, .int .i64 c.off, .slice c.oc c.chg.length c.cc, .slice c.oh c.hol.length c.ch, .slice none 0 0, .int .u64 (c.seed : Nat), .int .i64 f, .int .i64 (f + (k : Int)), .int .i64 (metE ms f k), .slice os (metS ms f k).length cs, .slice none 0 0, .int .i64 0, .int .i64 0, .int .i64 0] := ⟨_, rfl⟩
        have HAh := Lib.hid (show Agr W3 X1 [B0, B1] by rw [hX]; exact Agr.setAll (by simp) _ HAg.out)
        have HRc := Lib.hid (show Blk X1 B1 43 #[.int .i64 0, .int .i64 0, .bool false] by rw [hX]; exact Blk.otherAll g3 _ HRb.out)
        have HRd := Lib.hid (show Blk X1 B0 41 #[.string c.nm, .slice c.oa c.arts.length c.ca, .int .i64 c.off, .slice c.oc c.chg.length c.cc, .slice c.oh c.hol.length c.ch, .slice none 0 0, .int .u64 (c.seed : Nat), .int .i64 f, .int .i64 (f + (k : Int)), .int .i64 (metE ms f k), .slice os (metS ms f k).length cs, .slice none 0 0, .int .i64 0, .int .i64 0, .int .i64 0] by rw [hX]; exact Blk.setAll (cs := [.string ⟨#[]⟩, .slice none 0 0, .int .i64 0, .slice none 0 0, .slice none 0 0, .slice none 0 0, .int .u64 0, .int .i64 0, .int .i64 0, .int .i64 0, .slice none 0 0, .slice none 0 0, .int .i64 0, .int .i64 0, .int .i64 0]) HRa.out rfl)
        rw [← hX]
        clear hX HAg HRa HRb
        refine wpC_skipN rfl rfl rfl (HJ.out _ HAh.out) (exec_store_all 43 _ _ rfl B1 43 [.int .i64 0, .int .i64 0, .bool false] [.int .i64 1, .int .i64 (regW ms k), .bool false] rfl rfl HRc.out rfl (by kernel_rfl) (all_oneCell_toArray (by intro u hu; simp only [List.mem_cons, List.not_mem_nil, or_false] at hu; rcases hu with rfl | rfl | rfl <;> rfl))) ?_
        obtain ⟨X2, hX⟩ : ∃ W, W = X1.setCells B1 0 [.int .i64 1, .int .i64 (regW ms k), .bool false] := ⟨_, rfl⟩
        have HAi := Lib.hid (show Agr W3 X2 [B0, B1] by rw [hX]; exact Agr.setAll (by simp) _ HAh.out)
        have HRe := Lib.hid (show Blk X2 B0 41 #[.string c.nm, .slice c.oa c.arts.length c.ca, .int .i64 c.off, .slice c.oc c.chg.length c.cc, .slice c.oh c.hol.length c.ch, .slice none 0 0, .int .u64 (c.seed : Nat), .int .i64 f, .int .i64 (f + (k : Int)), .int .i64 (metE ms f k), .slice os (metS ms f k).length cs, .slice none 0 0, .int .i64 0, .int .i64 0, .int .i64 0] by rw [hX]; exact Blk.otherAll g4 _ HRd.out)
        have HRf := Lib.hid (show Blk X2 B1 43 #[.int .i64 1, .int .i64 (regW ms k), .bool false] by rw [hX]; exact Blk.setAll (cs := [.int .i64 0, .int .i64 0, .bool false]) HRc.out rfl)
        rw [← hX]
        clear hX HAh HRc HRd
        refine wpC_runD 12 rfl rfl rfl (HJ.out _ HAi.out) (v := .bool false) (w' := X2) (by go_simp) ?_
        simp only [Act.put, List.setIfInBounds_toArray, List.set_cons_zero, List.set_cons_succ]
        refine wpC_nil ?_
        have ENDM := trivial
        go_wp2
        have e0 : X2.cell? ⟨B0, 0, none⟩ = some (.string c.nm) := HRe.out.cell 0
        have e1 : X2.cell? ⟨B0, 1, none⟩ = some (.slice c.oa c.arts.length c.ca) := HRe.out.cell 1
        have e2 : X2.cell? ⟨B0, 2, none⟩ = some (.int .i64 c.off) := HRe.out.cell 2
        have e3 : X2.cell? ⟨B0, 3, none⟩ = some (.slice c.oc c.chg.length c.cc) := HRe.out.cell 3
        have e4 : X2.cell? ⟨B0, 4, none⟩ = some (.slice c.oh c.hol.length c.ch) := HRe.out.cell 4
        have e5 : X2.cell? ⟨B0, 5, none⟩ = some (.slice none 0 0) := HRe.out.cell 5
        have e6 : X2.cell? ⟨B0, 6, none⟩ = some (.int .u64 (c.seed : Nat)) := HRe.out.cell 6
        have e7 : X2.cell? ⟨B0, 7, none⟩ = some (.int .i64 f) := HRe.out.cell 7
        have e8 : X2.cell? ⟨B0, 8, none⟩ = some (.int .i64 (f + (k : Int))) := HRe.out.cell 8
        have e9 : X2.cell? ⟨B0, 9, none⟩ = some (.int .i64 (metE ms f k)) := HRe.out.cell 9
        have e10 : X2.cell? ⟨B0, 10, none⟩ = some (.slice os (metS ms f k).length cs) := HRe.out.cell 10
        have e11 : X2.cell? ⟨B0, 11, none⟩ = some (.slice none 0 0) := HRe.out.cell 11
        have e12 : X2.cell? ⟨B0, 12, none⟩ = some (.int .i64 0) := HRe.out.cell 12
        have e13 : X2.cell? ⟨B0, 13, none⟩ = some (.int .i64 0) := HRe.out.cell 13
        have e14 : X2.cell? ⟨B0, 14, none⟩ = some (.int .i64 0) := HRe.out.cell 14
        have j0 : X2.cell? ⟨B1, 0, none⟩ = some (.int .i64 1) := HRf.out.cell 0
        have j1 : X2.cell? ⟨B1, 1, none⟩ = some (.int .i64 (regW ms k)) := HRf.out.cell 1
        have j2 : X2.cell? ⟨B1, 2, none⟩ = some (.bool false) := HRf.out.cell 2
        exact bodyPost_ret (v := .tuple #[.agg #[.string c.nm, .slice c.oa c.arts.length c.ca, .int .i64 c.off, .slice c.oc c.chg.length c.cc, .slice c.oh c.hol.length c.ch, .slice none 0 0, .int .u64 (c.seed : Nat), .int .i64 f, .int .i64 (f + (k : Int)), .int .i64 (metE ms f k), .slice os (metS ms f k).length cs, .slice none 0 0, .int .i64 0, .int .i64 0, .int .i64 0], .agg #[.int .i64 1, .int .i64 (regW ms k), .bool false], .bool false]) (by simp [results, Tryz.results8, go_sem, e0, e1, e2, e3, e4, e5, e6, e7, e8, e9, e10, e11, e12, e13, e14, j0, j1, j2]) rfl (HFIN.out _ HAi.out)
      · rcases HLO.out with ⟨_, rfl, hl⟩ | ⟨hx, _⟩
        rotate_left
        · exact absurd hap (by rw [hx]; decide)
        have HL := Lib.hid hl
        clear hl HLO HPR
        have HMI : Hid (MSt w W3 T C0 B0 B1 CB MB c f (f + k) (metE ms f k) (.slice os (metS ms f k).length cs) (metS ms f k) (regW ms k + ((0 : Nat) : Int) * wOf x)) := Lib.hid (by have := HS.out; simpa using this)
        have HRB := Lib.hid (regW_bound ms k)
        clear HS
        go_wp2
        go_loopw [51] (fun j wr => ∃ i : Nat, i ≤ 6 ∧ j = .int .i64 i ∧ MSt w wr T C0 B0 B1 CB MB c f (f + k) (metE ms f k) (.slice os (metS ms f k).length cs) (metS ms f k) (regW ms k + (i : Int) * wOf x) ∧ LSt wr MB (.slice os (metS ms f k).length cs) u15 (metL c.seed hs ms f k) ∧ Blk wr X 73 #[.int .u8 (x.1 : Nat), .int .u8 (x.2 : Nat)]) (fun j _ => 6 - (intOf j).toNat)
        case atStart => exact ⟨0, Nat.zero_le _, rfl, HMI.out, HL.out, HX.out⟩
        case round =>
          obtain ⟨i, hi, rfl, hst, hls, hxb⟩ := hrel
          obtain ⟨wI, rfl⟩ : ∃ wI : World, wI = wr := ⟨_, rfl⟩
          clear HMI HL HX
          have HS := Lib.hid hst
          have HL := Lib.hid hls
          have HX := Lib.hid hxb
          clear hst hls hxb
          by_cases hl6 : i < 6
          · have m0 : wI.cell? ⟨MB, 0, none⟩ = some (.int .i64 1) := HS.out.mt.cell 0
            have m1 : wI.cell? ⟨MB, 1, none⟩ = some (.int .i64 (regW ms k + (i : Int) * wOf x)) := HS.out.mt.cell 1
            have m2 : wI.cell? ⟨MB, 2, none⟩ = some (.bool false) := HS.out.mt.cell 2
            have x0 : wI.cell? ⟨X, 0, none⟩ = some (.int .u8 (x.1 : Nat)) := HX.out.cell 0
            have x1 : wI.cell? ⟨X, 1, none⟩ = some (.int .u8 (x.2 : Nat)) := HX.out.cell 1
            have HBI := Lib.hid (nn_mul (a := (i : Int)) (b := wOf x) (A := 6) (B := 552000) (by omega) HWO.out.1 (by omega) HWO.out.2)
            have HNX := Lib.hid (show regW ms k + (i : Int) * wOf x + 2300 * ((x.1 : Int) % 81) * ((x.2 : Int) % 4) = regW ms k + ((i + 1 : Nat) : Int) * wOf x by
              rw [← HWD.out]
              push_cast
              rw [Int.add_mul, Int.one_mul]
              omega)
            obtain ⟨R, hR⟩ : ∃ R, regW ms k + (i : Int) * wOf x = R := ⟨_, rfl⟩
            have HRQ := Lib.hid (show 0 ≤ R ∧ R ≤ 900000000000 by have h1 := HRB.out; have h2 := HBI.out; rw [← hR]; omega)
            rw [hR] at m1 HS HNX
            clear hR
            go_wp2_with fail
            refine (Count_any R ((x.1 : Int) % 81) ((x.2 : Int) % 4) wI HRQ.out.1 (by have := HRQ.out; omega) (by omega) (by omega) (by omega) (by omega)).mono ?_
            rintro _ W5 ⟨rfl, hb⟩
            replace HS := Lib.hid (HS.out.later hb)
            replace HL := Lib.hid (HL.out.later hb)
            replace HX := Lib.hid (HX.out.later hb)
            clear hb m0 m1 m2 x0 x1
            obtain ⟨R', hR'⟩ : ∃ R', R + 2300 * ((x.1 : Int) % 81) * ((x.2 : Int) % 4) = R' := ⟨_, rfl⟩
            rw [hR'] at HNX ⊢
            clear hR'
            go_upto_region 13 with (fail)
            obtain ⟨W6, hW6⟩ : ∃ W', W' = W5.alloc (.cells #[.int .i64 1, .int .i64 R', .bool false] 43) := ⟨_, rfl⟩
            have HB6 := Lib.hid (show Below W5.heap.size W5 W6 by rw [hW6]; exact below_alloc (Below.refl _ _) _)
            have HY := Lib.hid (show Blk W6 W5.heap.size 43 #[.int .i64 1, .int .i64 R', .bool false] by rw [hW6]; exact Blk.new _ _ _)
            rw [← hW6]
            clear hW6
            replace HS := Lib.hid (HS.out.later HB6.out)
            replace HL := Lib.hid (HL.out.later HB6.out)
            replace HX := Lib.hid (HX.out.later HB6.out)
            have hxm : ¬ X = MB := by have := HXM.out; omega
            clear HB6
            obtain ⟨Y, hY⟩ : ∃ Y, W5.heap.size = Y := ⟨_, rfl⟩
            rw [hY] at HY ⊢
            clear hY
            have y0 : W6.cell? ⟨Y, 0, none⟩ = some (.int .i64 1) := HY.out.cell 0
            have y1 : W6.cell? ⟨Y, 1, none⟩ = some (.int .i64 R') := HY.out.cell 1
            have y2 : W6.cell? ⟨Y, 2, none⟩ = some (.bool false) := HY.out.cell 2
            have m0 : W6.cell? ⟨MB, 0, none⟩ = some (.int .i64 1) := HS.out.mt.cell 0
            have m1 : W6.cell? ⟨MB, 1, none⟩ = some (.int .i64 R) := HS.out.mt.cell 1
            have m2 : W6.cell? ⟨MB, 2, none⟩ = some (.bool false) := HS.out.mt.cell 2
            have z0 := HS.out.mt.frozen 0
            have z1 := HS.out.mt.frozen 1
            have z2 := HS.out.mt.frozen 2
            have HAG := Lib.hid (show Agr W6 (((W6.setCell ⟨MB, 0, none⟩ (.int .i64 1)).setCell ⟨MB, 1, none⟩ (.int .i64 R')).setCell ⟨MB, 2, none⟩ (.bool false)) [MB] from (((Agr.refl W6 [MB]).set (by simp)).set (by simp)).set (by simp))
            have HSF := Lib.hid (HS.out.meter (r' := R') HBS.out HAG.out (((HS.out.mt.set 0 (.int .i64 1)).set 1 (.int .i64 R')).set 2 (.bool false)))
            have HLF := Lib.hid (HL.out.agr HAG.out (fun b hb => by have := List.mem_singleton.1 hb; omega))
            have HXF := Lib.hid (HAG.out.blk HX.out (fun hm => hxm (List.mem_singleton.1 hm)))
            clear HAG
            go_wp2
            go_roundw
            case rel => exact ⟨i + 1, hl6, by go_num, by rw [← HNX.out]; exact HSF.out, HLF.out, HXF.out⟩
            case measure => simp [intOf]; omega
          · obtain rfl : i = 6 := by omega
            have HR6 := Lib.hid (show regW ms k + ((6 : Nat) : Int) * wOf x = regW ms (k + 1) by rw [HWV.out]; push_cast; rfl)
            rw [HR6.out] at HS
            have HRN := Lib.hid (regW_bound ms (k + 1))
            have m0 : wI.cell? ⟨MB, 0, none⟩ = some (.int .i64 1) := HS.out.mt.cell 0
            have m1 : wI.cell? ⟨MB, 1, none⟩ = some (.int .i64 (regW ms (k + 1))) := HS.out.mt.cell 1
            have m2 : wI.cell? ⟨MB, 2, none⟩ = some (.bool false) := HS.out.mt.cell 2
            have HWN := Lib.hid (show whN ms (k + 1) = regW ms (k + 1) / 3600 from rfl)
            have HWS := Lib.hid (whN_step ms k)
            have HWB := Lib.hid (whN_bound ms (k + 1))
            have HWC := Lib.hid (whN_bound ms k)
            have HMS := Lib.hid (show metS ms f (k + 1) = if whN ms (k + 1) = whN ms k then metS ms f k else metS ms f k ++ [(f + k, whN ms (k + 1) - whN ms k)] from rfl)
            have HME := Lib.hid (show metE ms f (k + 1) = if whN ms (k + 1) = whN ms k then metE ms f k else f + k + 1 from rfl)
            obtain ⟨R, hR⟩ : ∃ R, regW ms (k + 1) = R := ⟨_, rfl⟩
            rw [hR] at m1 HRN HWN HS
            have HRE := Lib.hid hR
            clear hR
            clear HR6 HWV HWD HWO HRB
            go_wp2_with fail
            refine (Energy_met R wI HRN.out.1 (by have := HRN.out; omega)).mono ?_
            rintro _ W5 ⟨rfl, hb⟩
            replace HS := Lib.hid (HS.out.later hb)
            replace HL := Lib.hid (HL.out.later hb)
            clear hb m0 m1 m2 HX
            rw [← HWN.out]
            clear HWN HRN
            have hap0 := (apOk_iff.1 hap).1
            have hap1 := (apOk_iff.1 hap).2
            have HAP := Lib.hid hap
            have hw1 := HWB.out
            have hw0 := HWC.out
            clear hap
            by_cases heq : whN ms (k + 1) = whN ms k
            · have HMS2 := Lib.hid (show metS ms f (k + 1) = metS ms f k by rw [HMS.out, if_pos heq])
              have HME2 := Lib.hid (show metE ms f (k + 1) = metE ms f k by rw [HME.out, if_pos heq])
              have dne : (whN ms (k + 1) != whN ms k) = false := by rw [heq]; simp
              clear heq HMS HME
              have HS7 : Hid (MSt w W5 T C0 B0 B1 CB MB c f (f + k) (metE ms f (k + 1)) (.slice os (metS ms f k).length cs) (metS ms f (k + 1)) R) := Lib.hid (by rw [HMS2.out, HME2.out]; exact HS.out)
              clear HS HMS2 HME2
              have c8 : W5.cell? ⟨CB, 8, none⟩ = some (.int .i64 (f + (k : Int))) := HS7.out.cl.cell 8
              have z8 := HS7.out.cl.frozen 8
              have HS8 := Lib.hid (HS7.out.claim (t' := f + (k : Int) + 1) (e' := metE ms f (k + 1)) (i := 8) (u := .int .i64 (f + (k : Int) + 1)) HBS.out (by simp))
              have HL8 := Lib.hid (HL.out.agr (agr_set (g := CB) (i := 8) (u := .int .i64 (f + (k : Int) + 1))) (fun b hb => by have := List.mem_singleton.1 hb; have := HBS.out.mb; omega))
              go_upto_region 25 with (fail)
              obtain ⟨W8, hW8⟩ : ∃ W', W' = W5.setCell ⟨CB, 8, none⟩ (.int .i64 (f + (k : Int) + 1)) := ⟨_, rfl⟩
              rw [← hW8] at HS8 HL8 ⊢
              clear hW8 c8 z8 HS7 HL
              have HFK := Lib.hid (show f + (k : Int) + 1 = f + ((k + 1 : Nat) : Int) by push_cast; omega)
              rw [HFK.out] at HS8
              have c8 : W8.cell? ⟨CB, 8, none⟩ = some (.int .i64 (f + ((k + 1 : Nat) : Int))) := HS8.out.cl.cell 8
              obtain ⟨bl, cbl, rfl, hrd, hbm, hbw, hbo⟩ := HL8.out.ex
              have HHV := Lib.hid (fun kk (e : (Value.slice os (metS ms f k).length cs).ownBlock = some kk) => (HS8.out.row.lt kk e).2)
              have HM8 := Lib.hid (show MB < W8.heap.size from HS8.out.mt.lt)
              have HAPP := Lib.hid (Append_any c.seed (some ⟨bl, 0, none⟩) cbl (metL c.seed hs ms f k) 1 (f + ((k + 1 : Nat) : Int)) (whN ms (k + 1)) W8 hs hrd (by rw [metL_len]; omega))
              clear hrd hbm hbw hbo HL8
              go_wp2_with fail
              refine HAPP.out.mono ?_
              rintro _ W9 happ
              have HB9 := Lib.hid happ.1
              obtain ⟨er2, vl2, rfl, hlo⟩ := app_next happ HAP.out (by omega) HM8.out HHV.out
              have HLO9 := Lib.hid hlo
              have HS9 := Lib.hid (HS8.out.later HB9.out)
              rw [← HRE.out] at HS9
              clear happ hlo HAPP c8 HS8 HB9
              go_wp2
              go_roundw
              case rel => exact ⟨k + 1, er2, _, hlt, by go_num, rfl, rfl, HS9.out, HLO9.out, fun _ => by rw [Nat.add_sub_cancel]; exact HAP.out⟩
              case measure => simp [intOf]; omega
            · have HMS2 := Lib.hid (show metS ms f (k + 1) = metS ms f k ++ [(f + k, whN ms (k + 1) - whN ms k)] by rw [HMS.out, if_neg heq])
              have HME2 := Lib.hid (show metE ms f (k + 1) = f + k + 1 by rw [HME.out, if_neg heq])
              have dne : (whN ms (k + 1) != whN ms k) = true := by simpa using heq
              clear heq HMS HME
              have c8 : W5.cell? ⟨CB, 8, none⟩ = some (.int .i64 (f + (k : Int))) := HS.out.cl.cell 8
              have c10 : W5.cell? ⟨CB, 10, none⟩ = some (.slice os (metS ms f k).length cs) := HS.out.cl.cell 10
              have HN1 := Lib.hid (show (metS ms f k).length + 1 ≤ 1000000000 by have := metS_len ms f k; omega)
              have hbase : MB + 1 ≤ W5.heap.size := HS.out.mt.lt
              have wdi : IntKind.i64.wrap (whN ms (k + 1) - whN ms k) = whN ms (k + 1) - whN ms k := IntWalk.i64_in _ (by omega)
              go_wp2_with (at_builtin; refine wp_append1O (news := [.int .i64 (f + (k : Int)), .int .i64 (whN ms (k + 1) - whN ms k)]) elemS HS.out.row hbase HN1.out (by decide) rfl (oneI2 _ _) rfl _ _ rfl rfl rfl rfl ?_)
              intro v2 w4 hr2 hgr hat
              obtain ⟨o2, c2, hv2, _⟩ := ownsRow_shape' hr2
              subst hv2
              have hR2 := ownsRow_cast hr2 rfl (show flatT (metS ms f k) ++ [.int .i64 (f + (k : Int)), .int .i64 (whN ms (k + 1) - whN ms k)] = flatT (metS ms f k ++ [(f + (k : Int), whN ms (k + 1) - whN ms k)]) from flatT_snoc (metS ms f k) (f + (k : Int), whN ms (k + 1) - whN ms k))
              have hob : ∀ kk, (Value.slice os (metS ms f k).length cs).ownBlock = some kk → MB + 1 ≤ kk := fun kk e => (HS.out.row.lt kk e).1
              have hcm : CB < MB + 1 := by have := HBS.out.mb; omega
              have HC4 := Lib.hid ((hgr.block _ (HS.out.later (below_alloc (Below.refl _ _) (.cells #[.int .i64 (f + (k : Int)), .int .i64 (whN ms (k + 1) - whN ms k)] 50))).cl.lt (fun e => by have := hob _ e.symm; omega)).trans (HS.out.later (below_alloc (Below.refl _ _) (.cells #[.int .i64 (f + (k : Int)), .int .i64 (whN ms (k + 1) - whN ms k)] 50))).cl)
              have HS6 := Lib.hid (HS.out.appended HBS.out hgr hR2)
              have HL6 := Lib.hid (HL.out.appended hgr (by omega : CB ≤ MB) hat (.slice o2 ((metS ms f k).length + 1) c2))
              rw [← HMS2.out] at HS6
              have f10 : w4.frozen? ⟨CB, 10, none⟩ = false := Blk.frozen HC4.out 10
              have g10 : w4.cell? ⟨CB, 10, none⟩ = some (.slice os (metS ms f k).length cs) := Blk.cell HC4.out 10
              clear hr2 hR2 hgr hat hob HS HL c8 c10 hbase HC4
              go_upto_region 22 with (fail)
              obtain ⟨W6, hW6⟩ : ∃ W', W' = w4.setCell ⟨CB, 10, none⟩ (.slice o2 ((metS ms f k).length + 1) c2) := ⟨_, rfl⟩
              rw [← hW6] at HS6 HL6 ⊢
              clear hW6 f10 g10
              have c8 : W6.cell? ⟨CB, 8, none⟩ = some (.int .i64 (f + (k : Int))) := HS6.out.cl.cell 8
              have c9 : W6.cell? ⟨CB, 9, none⟩ = some (.int .i64 (metE ms f k)) := HS6.out.cl.cell 9
              have z9 := HS6.out.cl.frozen 9
              have HS7' := Lib.hid (HS6.out.claim (t' := f + (k : Int)) (e' := f + (k : Int) + 1) (i := 9) (u := .int .i64 (f + (k : Int) + 1)) HBS.out (by simp))
              have HL7 := Lib.hid (HL6.out.agr (agr_set (g := CB) (i := 9) (u := .int .i64 (f + (k : Int) + 1))) (fun b hb => by have := List.mem_singleton.1 hb; omega))
              go_upto_region 23 with (fail)
              obtain ⟨W7, hW7⟩ : ∃ W', W' = W6.setCell ⟨CB, 9, none⟩ (.int .i64 (f + (k : Int) + 1)) := ⟨_, rfl⟩
              rw [← hW7] at HS7' HL7 ⊢
              clear hW7 c8 c9 z9 HS6 HL6
              have HS7 : Hid (MSt w W7 T C0 B0 B1 CB MB c f (f + k) (metE ms f (k + 1)) (.slice o2 ((metS ms f k).length + 1) c2) (metS ms f (k + 1)) R) := Lib.hid (by rw [HME2.out]; exact HS7'.out)
              clear HS7' HMS2 HME2
              have c8 : W7.cell? ⟨CB, 8, none⟩ = some (.int .i64 (f + (k : Int))) := HS7.out.cl.cell 8
              have z8 := HS7.out.cl.frozen 8
              have HS8 := Lib.hid (HS7.out.claim (t' := f + (k : Int) + 1) (e' := metE ms f (k + 1)) (i := 8) (u := .int .i64 (f + (k : Int) + 1)) HBS.out (by simp))
              have HL8 := Lib.hid (HL7.out.agr (agr_set (g := CB) (i := 8) (u := .int .i64 (f + (k : Int) + 1))) (fun b hb => by have := List.mem_singleton.1 hb; have := HBS.out.mb; omega))
              go_upto_region 25 with (fail)
              obtain ⟨W8, hW8⟩ : ∃ W', W' = W7.setCell ⟨CB, 8, none⟩ (.int .i64 (f + (k : Int) + 1)) := ⟨_, rfl⟩
              rw [← hW8] at HS8 HL8 ⊢
              clear hW8 c8 z8 HS7 HL7
              have HFK := Lib.hid (show f + (k : Int) + 1 = f + ((k + 1 : Nat) : Int) by push_cast; omega)
              rw [HFK.out] at HS8
              have c8 : W8.cell? ⟨CB, 8, none⟩ = some (.int .i64 (f + ((k + 1 : Nat) : Int))) := HS8.out.cl.cell 8
              obtain ⟨bl, cbl, rfl, hrd, hbm, hbw, hbo⟩ := HL8.out.ex
              have HHV := Lib.hid (fun kk (e : (Value.slice o2 ((metS ms f k).length + 1) c2).ownBlock = some kk) => (HS8.out.row.lt kk e).2)
              have HM8 := Lib.hid (show MB < W8.heap.size from HS8.out.mt.lt)
              have HAPP := Lib.hid (Append_any c.seed (some ⟨bl, 0, none⟩) cbl (metL c.seed hs ms f k) 1 (f + ((k + 1 : Nat) : Int)) (whN ms (k + 1)) W8 hs hrd (by rw [metL_len]; omega))
              clear hrd hbm hbw hbo HL8
              go_wp2_with fail
              refine HAPP.out.mono ?_
              rintro _ W9 happ
              have HB9 := Lib.hid happ.1
              obtain ⟨er2, vl2, rfl, hlo⟩ := app_next happ HAP.out (by omega) HM8.out HHV.out
              have HLO9 := Lib.hid hlo
              have HS9 := Lib.hid (HS8.out.later HB9.out)
              rw [← HRE.out] at HS9
              clear happ hlo HAPP c8 HS8 HB9
              go_wp2
              go_roundw
              case rel => exact ⟨k + 1, er2, _, hlt, by go_num, rfl, rfl, HS9.out, HLO9.out, fun _ => by rw [Nat.add_sub_cancel]; exact HAP.out⟩
              case measure => simp [intOf]; omega
    · obtain rfl : k = ms.length := by omega
      have HBO := Lib.hid (show billOk c ⟨f, f + ms.length, metE ms f ms.length, none, 0, metS ms f ms.length⟩ = billOk c ⟨f, f + ms.length, metE ms f ms.length, os, cs, metS ms f ms.length⟩ from billOk_at)
      have HTW := Lib.hid ((ownsRow_twosS (S := []) HS.out.row (fun b hb => by cases hb)).twos)
      have HTS := Lib.hid (ownsRow_twosS (S := [CB, MB, B0, B1]) HS.out.row (fun b hb => by have h1 := HBS.out.b0; have h2 := HBS.out.b1; have h3 := HBS.out.cb; have h4 := HBS.out.mb; simp at hb; omega))
      have HT1 := Lib.hid (show f + (ms.length : Int) ≤ 9223372036854775807 by
        by_cases h0 : 0 < ms.length
        · have := (apOk_iff.1 (HPR.out h0)).2
          omega
        · have : ms.length = 0 := by omega
          rw [this]
          have e : f + ((0 : Nat) : Int) = f := by omega
          rw [e]
          exact hf1)
      have HLN := Lib.hid (metS_len ms f ms.length)
      have HBILL := Lib.hid (Bill_any wA c ⟨f, f + ms.length, metE ms f ms.length, os, cs, metS ms f ms.length⟩ (HA.out.later HS.out.below) (HC.out.later HS.out.below) HTW.out hnm hna (by have := HLN.out; show (metS ms f ms.length).length ≤ _; omega) HT1.out)
      dsimp only at HBILL
      have q7 : wA.cell? ⟨CB, 7, none⟩ = some (.int .i64 f) := HS.out.cl.cell 7
      have q8 : wA.cell? ⟨CB, 8, none⟩ = some (.int .i64 (f + (ms.length : Int))) := HS.out.cl.cell 8
      have q9 : wA.cell? ⟨CB, 9, none⟩ = some (.int .i64 (metE ms f ms.length)) := HS.out.cl.cell 9
      have q10 : wA.cell? ⟨CB, 10, none⟩ = some (.slice os (metS ms f ms.length).length cs) := HS.out.cl.cell 10
      have t0 : wA.cell? ⟨T, 0, none⟩ = some (.string c.nm) := HS.out.bt.cell 0
      have t1 : wA.cell? ⟨T, 1, none⟩ = some (.slice c.oa c.arts.length c.ca) := HS.out.bt.cell 1
      have k0 : wA.cell? ⟨C0, 0, none⟩ = some (.int .i64 c.off) := HS.out.bc.cell 0
      have k1 : wA.cell? ⟨C0, 1, none⟩ = some (.slice c.oc c.chg.length c.cc) := HS.out.bc.cell 1
      have k2 : wA.cell? ⟨C0, 2, none⟩ = some (.slice c.oh c.hol.length c.ch) := HS.out.bc.cell 2
      go_wp2_with fail
      refine HBILL.out.mono ?_
      rintro eB W2 ⟨hb, hbo⟩
      have HBILO := Lib.hid hbo
      have HBL := Lib.hid (show ∀ b ∈ [CB, MB, B0, B1], b < wA.heap.size from fun b hb => by have := HS.out.mt.lt; have h1 := HBS.out.b1; have h2 := HBS.out.cb; have h3 := HBS.out.mb; simp at hb; omega)
      replace HS := Lib.hid (HS.out.later hb)
      replace HLO := Lib.hid (HLO.out.later hb)
      replace HTS := Lib.hid (HTS.out.later hb)
      clear hb hbo q7 q8 q9 q10 t0 t1 k0 k1 k2 HBILL HTW HT1 HLN HPR
      obtain ⟨bo, bl, bc, BN, BT, BG, gk, rfl, HBC⟩ : ∃ (bo : Option Addr) (bl bc : Nat) (BN BT BG gk : Int), eB = .returned (.tuple #[.agg #[.slice bo bl bc, .int .i64 BN, .int .i64 BT, .int .i64 BG], .int .i64 gk]) ∧ Hid ((billOk c ⟨f, f + ms.length, metE ms f ms.length, os, cs, metS ms f ms.length⟩ = true ∧ gk = 0 ∧ bl = (linA c ⟨f, f + ms.length, metE ms f ms.length, os, cs, metS ms f ms.length⟩ c.arts.length).length ∧ BN = netB c ⟨f, f + ms.length, metE ms f ms.length, os, cs, metS ms f ms.length⟩ ∧ BT = taxB c ⟨f, f + ms.length, metE ms f ms.length, os, cs, metS ms f ms.length⟩ ∧ BG = netB c ⟨f, f + ms.length, metE ms f ms.length, os, cs, metS ms f ms.length⟩ + taxB c ⟨f, f + ms.length, metE ms f ms.length, os, cs, metS ms f ms.length⟩ ∧ TwosN wA.heap.size W2 bo (linA c ⟨f, f + ms.length, metE ms f ms.length, os, cs, metS ms f ms.length⟩ c.arts.length)) ∨ (billOk c ⟨f, f + ms.length, metE ms f ms.length, os, cs, metS ms f ms.length⟩ = false ∧ (gk == 0) = false ∧ bo = none ∧ bl = 0 ∧ bc = 0 ∧ BN = 0 ∧ BT = 0 ∧ BG = 0)) := by
        rcases HBILO.out with ⟨hbk, ob, cb, rfl, htn⟩ | ⟨hbk, kk, hk0, rfl⟩
        · exact ⟨_, _, _, _, _, _, _, rfl, Lib.hid (.inl ⟨hbk, rfl, rfl, rfl, rfl, rfl, htn⟩)⟩
        · exact ⟨_, _, _, _, _, _, _, rfl, Lib.hid (.inr ⟨hbk, hk0, rfl, rfl, rfl, rfl, rfl, rfl⟩)⟩
      clear HBILO
      obtain ⟨od, nn, cd, rfl, HOC⟩ : ∃ (od : Option Addr) (nn cd : Nat), u15 = .slice od nn cd ∧ Hid ((apOk f ms.length = true ∧ er = 0 ∧ nn = (metL c.seed hs ms f ms.length).length ∧ ∃ bl, od = some ⟨bl, 0, none⟩ ∧ Rds W2 (some ⟨bl, 0, none⟩) (metL c.seed hs ms f ms.length) ∧ MB < bl) ∨ (apOk f ms.length = false ∧ (er == 0) = false ∧ od = none ∧ nn = 0 ∧ cd = 0)) := by
        rcases HLO.out with ⟨hap, rfl, hl⟩ | ⟨hap, he, rfl⟩
        · obtain ⟨bl, cbl, rfl, hrd, hbm, hbw, _⟩ := hl.ex
          exact ⟨_, _, _, rfl, Lib.hid (.inl ⟨hap, rfl, rfl, bl, rfl, hrd, hbm⟩)⟩
        · exact ⟨_, _, _, rfl, Lib.hid (.inr ⟨hap, he, rfl, rfl, rfl⟩)⟩
      clear HLO
      have HFIN0 := Lib.hid (show ∀ Wz, Agr W2 Wz [CB, MB, B0, B1] → OUT (.returned (.tuple #[.agg #[.string c.nm, .slice c.oa c.arts.length c.ca, .int .i64 c.off, .slice c.oc c.chg.length c.cc, .slice c.oh c.hol.length c.ch, .slice od nn cd, .int .u64 (c.seed : Nat), .int .i64 f, .int .i64 (f + (ms.length : Int)), .int .i64 (metE ms f ms.length), .slice os (metS ms f ms.length).length cs, .slice bo bl bc, .int .i64 BN, .int .i64 BT, .int .i64 BG], .agg #[.int .i64 1, .int .i64 (regW ms ms.length), .bool false], .bool ((er == 0) && (gk == 0))])) Wz from fun Wz ha => by
        have hbz := ha.below HS.out.below (fun b hb => by have h1 := HBS.out.t; have h2 := HBS.out.c; have h3 := HBS.out.b0; have h4 := HBS.out.b1; have h5 := HBS.out.cb; have h6 := HBS.out.mb; simp at hb; omega)
        rcases HOC.out with ⟨hap, rfl, rfl, blk, rfl, hrd, hbm⟩ | ⟨hap, he, rfl, rfl, rfl⟩
        · rcases HBC.out with ⟨hbk, rfl, rfl, rfl, rfl, rfl, htn⟩ | ⟨hbk, hk0, rfl, rfl, rfl, rfl, rfl, rfl⟩
          · refine HOUT.out _ _ ⟨hbz, .inl ⟨by unfold metOk; rw [hap, HBO.out, hbk]; rfl, some ⟨blk, 0, none⟩, cd, os, cs, bo, bc, rfl, ⟨HA.out.later hbz, (HC.out.later hbz).chg, (HC.out.later hbz).hol, hrd.agr ha (fun hm => by have h1 := HBS.out.b1; have h2 := HBS.out.cb; have h3 := HBS.out.mb; simp at hm; omega), (HTS.out.agr ha (fun b hb => hb)).twos, (htn.agr ha HBL.out (Nat.le_refl _)).twos, hs, hnm, hna, hnc, hnh, by show (metL c.seed hs ms f ms.length).length ≤ _; rw [metL_len]; omega, by have := metS_len ms f ms.length; show (metS ms f ms.length).length ≤ _; omega, by have := linA_len c ⟨f, f + ms.length, metE ms f ms.length, os, cs, metS ms f ms.length⟩ c.arts.length; show (linA c ⟨f, f + ms.length, metE ms f ms.length, os, cs, metS ms f ms.length⟩ c.arts.length).length ≤ _; omega⟩⟩⟩
          · rw [hk0]
            exact HOUT.out _ _ ⟨hbz, .inr ⟨by unfold metOk; rw [hap, HBO.out, hbk]; rfl, { c with od := some ⟨blk, 0, none⟩, cd := cd, rds := metL c.seed hs ms f ms.length, s := ⟨f, f + ms.length, metE ms f ms.length, os, cs, metS ms f ms.length⟩, b := BilA.zero }, regW ms ms.length, rfl⟩⟩
        · rw [he]
          rcases HBC.out with ⟨hbk, rfl, rfl, rfl, rfl, rfl, htn⟩ | ⟨hbk, hk0, rfl, rfl, rfl, rfl, rfl, rfl⟩
          · exact HOUT.out _ _ ⟨hbz, .inr ⟨by unfold metOk; rw [hap]; rfl, { c with od := none, cd := 0, rds := [], s := ⟨f, f + ms.length, metE ms f ms.length, os, cs, metS ms f ms.length⟩, b := ⟨bo, bc, linA c ⟨f, f + ms.length, metE ms f ms.length, os, cs, metS ms f ms.length⟩ c.arts.length, netB c ⟨f, f + ms.length, metE ms f ms.length, os, cs, metS ms f ms.length⟩, taxB c ⟨f, f + ms.length, metE ms f ms.length, os, cs, metS ms f ms.length⟩, netB c ⟨f, f + ms.length, metE ms f ms.length, os, cs, metS ms f ms.length⟩ + taxB c ⟨f, f + ms.length, metE ms f ms.length, os, cs, metS ms f ms.length⟩⟩ }, regW ms ms.length, rfl⟩⟩
          · exact HOUT.out _ _ ⟨hbz, .inr ⟨by unfold metOk; rw [hap]; rfl, { c with od := none, cd := 0, rds := [], s := ⟨f, f + ms.length, metE ms f ms.length, os, cs, metS ms f ms.length⟩, b := BilA.zero }, regW ms ms.length, rfl⟩⟩)
      clear HBC HOC HA HC HTS HBO HBL HOUT HM HM2
      go_upto_region 28 with (fail)
      obtain ⟨W3, hW3⟩ : ∃ W', W' = W2.alloc (.cells #[.slice bo bl bc, .int .i64 BN, .int .i64 BT, .int .i64 BG] 39) := ⟨_, rfl⟩
      have HB3 := Lib.hid (show Below W2.heap.size W2 W3 by rw [hW3]; exact below_alloc (Below.refl _ _) _)
      have HD := Lib.hid (show Blk W3 W2.heap.size 39 #[.slice bo bl bc, .int .i64 BN, .int .i64 BT, .int .i64 BG] by rw [hW3]; exact Blk.new _ _ _)
      rw [← hW3]
      clear hW3
      have hDC : ¬ W2.heap.size = CB := by have := HS.out.cl.lt; omega
      replace HS := Lib.hid (HS.out.later HB3.out)
      obtain ⟨DD, hDD⟩ : ∃ X, W2.heap.size = X := ⟨_, rfl⟩
      rw [hDD] at HD hDC ⊢
      clear hDD
      have d0 : W3.cell? ⟨DD, 0, none⟩ = some (.slice bo bl bc) := HD.out.cell 0
      have d1 : W3.cell? ⟨DD, 1, none⟩ = some (.int .i64 BN) := HD.out.cell 1
      have d2 : W3.cell? ⟨DD, 2, none⟩ = some (.int .i64 BT) := HD.out.cell 2
      have d3 : W3.cell? ⟨DD, 3, none⟩ = some (.int .i64 BG) := HD.out.cell 3
      have c5 : W3.cell? ⟨CB, 5, none⟩ = some (.slice none 0 0) := HS.out.cl.cell 5
      have z5 := HS.out.cl.frozen 5
      have c11 : W3.cell? ⟨CB, 11, none⟩ = some (.slice none 0 0) := HS.out.cl.cell 11
      have z11 := HS.out.cl.frozen 11
      have c12 : W3.cell? ⟨CB, 12, none⟩ = some (.int .i64 0) := HS.out.cl.cell 12
      have z12 := HS.out.cl.frozen 12
      have c13 : W3.cell? ⟨CB, 13, none⟩ = some (.int .i64 0) := HS.out.cl.cell 13
      have z13 := HS.out.cl.frozen 13
      have c14 : W3.cell? ⟨CB, 14, none⟩ = some (.int .i64 0) := HS.out.cl.cell 14
      have z14 := HS.out.cl.frozen 14
      go_region
      obtain ⟨W4, hW4⟩ : ∃ W, W = (((((W3.setCell ⟨CB, 5, none⟩ (.slice od nn cd)).setCell ⟨CB, 11, none⟩ (.slice bo bl bc)).setCell ⟨CB, 12, none⟩ (.int .i64 BN)).setCell ⟨CB, 13, none⟩ (.int .i64 BT)).setCell ⟨CB, 14, none⟩ (.int .i64 BG)).drew := ⟨_, rfl⟩
      have HCB := Lib.hid (show Blk W4 CB 41 #[.string c.nm, .slice c.oa c.arts.length c.ca, .int .i64 c.off, .slice c.oc c.chg.length c.cc, .slice c.oh c.hol.length c.ch, .slice od nn cd, .int .u64 (c.seed : Nat), .int .i64 f, .int .i64 (f + (ms.length : Int)), .int .i64 (metE ms f ms.length), .slice os (metS ms f ms.length).length cs, .slice bo bl bc, .int .i64 BN, .int .i64 BT, .int .i64 BG] by rw [hW4]; exact ((((((HS.out.cl).set 5 (.slice od nn cd)).set 11 (.slice bo bl bc)).set 12 (.int .i64 BN)).set 13 (.int .i64 BT)).set 14 (.int .i64 BG)).drew)
      have HA4 := Lib.hid (show Agr W3 W4 [CB] by rw [hW4]; exact ((((((Agr.refl W3 [CB]).set (g := CB) (i := 5) (u := .slice od nn cd) (by simp)).set (g := CB) (i := 11) (u := .slice bo bl bc) (by simp)).set (g := CB) (i := 12) (u := .int .i64 BN) (by simp)).set (g := CB) (i := 13) (u := .int .i64 BT) (by simp)).set (g := CB) (i := 14) (u := .int .i64 BG) (by simp)).later (Below.refl _ _).drew)
      rw [← hW4]
      clear hW4 c5 z5 c11 c12 c13 c14 z11 z12 z13 z14 d0 d1 d2 d3
      have HM4 := Lib.hid (HA4.out.blk HS.out.mt (fun hm => by have := List.mem_singleton.1 hm; have := HBS.out.mb; omega))
      have HS4 : Hid (FinS w W4 B0 B1) := Lib.hid ⟨HA4.out.blk HS.out.r0 (fun hm => by have := List.mem_singleton.1 hm; have := HBS.out.b1; have := HBS.out.cb; omega), HA4.out.blk HS.out.r1 (fun hm => by have := List.mem_singleton.1 hm; have := HBS.out.cb; omega), HA4.out.below HS.out.below (fun b hb => by have := List.mem_singleton.1 hb; have h1 := HBS.out.t; have h2 := HBS.out.c; have h3 := HBS.out.b0; have h4 := HBS.out.b1; have h5 := HBS.out.cb; omega)⟩
      have HFIN := Lib.hid (fun Wz (ha : Agr W4 Wz [B0, B1]) => HFIN0.out Wz (((Agr.of_below (S := [CB, MB, B0, B1]) HB3.out).trans HA4.out (fun b hb => by simp at hb; simp [hb])).trans ha (fun b hb => by simp at hb; rcases hb with rfl | rfl <;> simp)))
      clear HFIN0 HS HD HB3 HA4
      go_wp2_with fail
      cases her : (er == 0) with
      | true =>
        rw [her, Bool.true_and] at HFIN
        obtain ⟨bb, hbb⟩ : ∃ b, (gk == 0) = b := ⟨_, rfl⟩
        rw [hbb] at HFIN
        have g1 : ¬ CB = B0 := by have := HBS.out.b1; have := HBS.out.cb; have := HBS.out.mb; omega
        have g2 : ¬ MB = B0 := by have := HBS.out.b1; have := HBS.out.cb; have := HBS.out.mb; omega
        have g3 : ¬ B1 = B0 := by have := HBS.out.b1; have := HBS.out.cb; have := HBS.out.mb; omega
        have g4 : ¬ B0 = B1 := by have := HBS.out.b1; have := HBS.out.cb; have := HBS.out.mb; omega
        have g5 : ¬ CB = B1 := by have := HBS.out.b1; have := HBS.out.cb; have := HBS.out.mb; omega
        have g6 : ¬ MB = B1 := by have := HBS.out.b1; have := HBS.out.cb; have := HBS.out.mb; omega
        have HJ := Lib.hid (fun w'' (ha : Agr W4 w'' [B0, B1]) => show w''.cell? ⟨CB, 0, none⟩ = some (.string c.nm) ∧ w''.cell? ⟨CB, 1, none⟩ = some (.slice c.oa c.arts.length c.ca) ∧ w''.cell? ⟨CB, 2, none⟩ = some (.int .i64 c.off) ∧ w''.cell? ⟨CB, 3, none⟩ = some (.slice c.oc c.chg.length c.cc) ∧ w''.cell? ⟨CB, 4, none⟩ = some (.slice c.oh c.hol.length c.ch) ∧ w''.cell? ⟨CB, 5, none⟩ = some (.slice od nn cd) ∧ w''.cell? ⟨CB, 6, none⟩ = some (.int .u64 (c.seed : Nat)) ∧ w''.cell? ⟨CB, 7, none⟩ = some (.int .i64 f) ∧ w''.cell? ⟨CB, 8, none⟩ = some (.int .i64 (f + (ms.length : Int))) ∧ w''.cell? ⟨CB, 9, none⟩ = some (.int .i64 (metE ms f ms.length)) ∧ w''.cell? ⟨CB, 10, none⟩ = some (.slice os (metS ms f ms.length).length cs) ∧ w''.cell? ⟨CB, 11, none⟩ = some (.slice bo bl bc) ∧ w''.cell? ⟨CB, 12, none⟩ = some (.int .i64 BN) ∧ w''.cell? ⟨CB, 13, none⟩ = some (.int .i64 BT) ∧ w''.cell? ⟨CB, 14, none⟩ = some (.int .i64 BG) ∧ w''.cell? ⟨MB, 0, none⟩ = some (.int .i64 1) ∧ w''.cell? ⟨MB, 1, none⟩ = some (.int .i64 (regW ms ms.length)) ∧ w''.cell? ⟨MB, 2, none⟩ = some (.bool false) from ⟨(ha.blk HCB.out (fun hm => by simp at hm; omega)).cell 0, (ha.blk HCB.out (fun hm => by simp at hm; omega)).cell 1, (ha.blk HCB.out (fun hm => by simp at hm; omega)).cell 2, (ha.blk HCB.out (fun hm => by simp at hm; omega)).cell 3, (ha.blk HCB.out (fun hm => by simp at hm; omega)).cell 4, (ha.blk HCB.out (fun hm => by simp at hm; omega)).cell 5, (ha.blk HCB.out (fun hm => by simp at hm; omega)).cell 6, (ha.blk HCB.out (fun hm => by simp at hm; omega)).cell 7, (ha.blk HCB.out (fun hm => by simp at hm; omega)).cell 8, (ha.blk HCB.out (fun hm => by simp at hm; omega)).cell 9, (ha.blk HCB.out (fun hm => by simp at hm; omega)).cell 10, (ha.blk HCB.out (fun hm => by simp at hm; omega)).cell 11, (ha.blk HCB.out (fun hm => by simp at hm; omega)).cell 12, (ha.blk HCB.out (fun hm => by simp at hm; omega)).cell 13, (ha.blk HCB.out (fun hm => by simp at hm; omega)).cell 14, (ha.blk HM4.out (fun hm => by simp at hm; omega)).cell 0, (ha.blk HM4.out (fun hm => by simp at hm; omega)).cell 1, (ha.blk HM4.out (fun hm => by simp at hm; omega)).cell 2⟩)
        refine wp_region_mask [8, 9, 10] [true, true, true, true, true, true, true, true, false, false, false] (fun w'' => w''.cell? ⟨CB, 0, none⟩ = some (.string c.nm) ∧ w''.cell? ⟨CB, 1, none⟩ = some (.slice c.oa c.arts.length c.ca) ∧ w''.cell? ⟨CB, 2, none⟩ = some (.int .i64 c.off) ∧ w''.cell? ⟨CB, 3, none⟩ = some (.slice c.oc c.chg.length c.cc) ∧ w''.cell? ⟨CB, 4, none⟩ = some (.slice c.oh c.hol.length c.ch) ∧ w''.cell? ⟨CB, 5, none⟩ = some (.slice od nn cd) ∧ w''.cell? ⟨CB, 6, none⟩ = some (.int .u64 (c.seed : Nat)) ∧ w''.cell? ⟨CB, 7, none⟩ = some (.int .i64 f) ∧ w''.cell? ⟨CB, 8, none⟩ = some (.int .i64 (f + (ms.length : Int))) ∧ w''.cell? ⟨CB, 9, none⟩ = some (.int .i64 (metE ms f ms.length)) ∧ w''.cell? ⟨CB, 10, none⟩ = some (.slice os (metS ms f ms.length).length cs) ∧ w''.cell? ⟨CB, 11, none⟩ = some (.slice bo bl bc) ∧ w''.cell? ⟨CB, 12, none⟩ = some (.int .i64 BN) ∧ w''.cell? ⟨CB, 13, none⟩ = some (.int .i64 BT) ∧ w''.cell? ⟨CB, 14, none⟩ = some (.int .i64 BG) ∧ w''.cell? ⟨MB, 0, none⟩ = some (.int .i64 1) ∧ w''.cell? ⟨MB, 1, none⟩ = some (.int .i64 (regW ms ms.length)) ∧ w''.cell? ⟨MB, 2, none⟩ = some (.bool false)) mixed (by kernel_rfl) ?_
        intro KR hR
        have HR := Lib.hid hR
        clear hR
        simp only [marked]
        apply wpM_val rfl
        · (intro w' hw'; obtain ⟨c0, c1, c2, c3, c4, c5, c6, c7, c8, c9, c10, c11, c12, c13, c14, c15, c16, c17⟩ := hw'; go_simp; with_reducible rfl)
        simp only [Act.put, List.setIfInBounds_toArray, List.set_cons_zero, List.set_cons_succ]
        apply wpM_val rfl
        · (intro w' hw'; obtain ⟨c0, c1, c2, c3, c4, c5, c6, c7, c8, c9, c10, c11, c12, c13, c14, c15, c16, c17⟩ := hw'; go_simp; with_reducible rfl)
        simp only [Act.put, List.setIfInBounds_toArray, List.set_cons_zero, List.set_cons_succ]
        apply wpM_val rfl
        · (intro w' hw'; go_simp; with_reducible rfl)
        simp only [Act.put, List.setIfInBounds_toArray, List.set_cons_zero, List.set_cons_succ]
        apply wpM_val rfl
        · (intro w' hw'; go_simp; with_reducible rfl)
        simp only [Act.put, List.setIfInBounds_toArray, List.set_cons_zero, List.set_cons_succ]
        apply wpM_val rfl
        · (intro w' hw'; go_simp; with_reducible rfl)
        simp only [Act.put, List.setIfInBounds_toArray, List.set_cons_zero, List.set_cons_succ]
        apply wpM_val rfl
        · (intro w' hw'; go_simp; with_reducible rfl)
        simp only [Act.put, List.setIfInBounds_toArray, List.set_cons_zero, List.set_cons_succ]
        apply wpM_val rfl
        · (intro w' hw'; go_simp; with_reducible rfl)
        simp only [Act.put, List.setIfInBounds_toArray, List.set_cons_zero, List.set_cons_succ]
        apply wpM_val rfl
        · (intro w' hw'; go_simp; with_reducible rfl)
        simp only [Act.put, List.setIfInBounds_toArray, List.set_cons_zero, List.set_cons_succ]
        refine wpM_nil (HR.out _ ?_)
        clear HR
        obtain ⟨X0, hX0⟩ : ∃ W, W = W4.drew := ⟨_, rfl⟩
        have HAg := Lib.hid (show Agr W4 X0 [B0, B1] by rw [hX0]; exact (Agr.refl _ _).later (Below.refl _ _).drew)
        have HRa : Hid (Blk X0 B0 41 #[.string ⟨#[]⟩, .slice none 0 0, .int .i64 0, .slice none 0 0, .slice none 0 0, .slice none 0 0, .int .u64 0, .int .i64 0, .int .i64 0, .int .i64 0, .slice none 0 0, .slice none 0 0, .int .i64 0, .int .i64 0, .int .i64 0]) := Lib.hid (by rw [hX0]; exact HS4.out.r0.drew)
        have HRb : Hid (Blk X0 B1 43 #[.int .i64 0, .int .i64 0, .bool false]) := Lib.hid (by rw [hX0]; exact HS4.out.r1.drew)
        rw [← hX0]
        clear hX0 HS4
        refine wpC_skipN rfl rfl rfl (HJ.out _ HAg.out) (exec_store_all 41 _ _ rfl B0 41 [.string ⟨#[]⟩, .slice none 0 0, .int .i64 0, .slice none 0 0, .slice none 0 0, .slice none 0 0, .int .u64 0, .int .i64 0, .int .i64 0, .int .i64 0, .slice none 0 0, .slice none 0 0, .int .i64 0, .int .i64 0, .int .i64 0] [.string c.nm, .slice c.oa c.arts.length c.ca, .int .i64 c.off, .slice c.oc c.chg.length c.cc, .slice c.oh c.hol.length c.ch, .slice od nn cd, .int .u64 (c.seed : Nat), .int .i64 f, .int .i64 (f + (ms.length : Int)), .int .i64 (metE ms f ms.length), .slice os (metS ms f ms.length).length cs, .slice bo bl bc, .int .i64 BN, .int .i64 BT, .int .i64 BG] rfl rfl HRa.out rfl (by kernel_rfl) (all_oneCell_toArray (by intro u hu; simp only [List.mem_cons, List.not_mem_nil, or_false] at hu; rcases hu with rfl | rfl | rfl | rfl | rfl | rfl | rfl | rfl | rfl | rfl | rfl | rfl | rfl | rfl | rfl <;> rfl))) ?_
        obtain ⟨X1, hX⟩ : ∃ W, W = X0.setCells B0 0 [.string c.nm, .slice c.oa c.arts.length c.ca, .int .i64 c.off, .slice c.oc c.chg.length c.cc, .slice c.oh c.hol.length c.ch, .slice od nn cd, .int .u64 (c.seed : Nat), .int .i64 f, .int .i64 (f + (ms.length : Int)), .int .i64 (metE ms f ms.length), .slice os (metS ms f ms.length).length cs, .slice bo bl bc, .int .i64 BN, .int .i64 BT, .int .i64 BG] := ⟨_, rfl⟩
        have HAh := Lib.hid (show Agr W4 X1 [B0, B1] by rw [hX]; exact Agr.setAll (by simp) _ HAg.out)
        have HRc := Lib.hid (show Blk X1 B1 43 #[.int .i64 0, .int .i64 0, .bool false] by rw [hX]; exact Blk.otherAll g3 _ HRb.out)
        have HRd := Lib.hid (show Blk X1 B0 41 #[.string c.nm, .slice c.oa c.arts.length c.ca, .int .i64 c.off, .slice c.oc c.chg.length c.cc, .slice c.oh c.hol.length c.ch, .slice od nn cd, .int .u64 (c.seed : Nat), .int .i64 f, .int .i64 (f + (ms.length : Int)), .int .i64 (metE ms f ms.length), .slice os (metS ms f ms.length).length cs, .slice bo bl bc, .int .i64 BN, .int .i64 BT, .int .i64 BG] by rw [hX]; exact Blk.setAll (cs := [.string ⟨#[]⟩, .slice none 0 0, .int .i64 0, .slice none 0 0, .slice none 0 0, .slice none 0 0, .int .u64 0, .int .i64 0, .int .i64 0, .int .i64 0, .slice none 0 0, .slice none 0 0, .int .i64 0, .int .i64 0, .int .i64 0]) HRa.out rfl)
        rw [← hX]
        clear hX HAg HRa HRb
        refine wpC_skipN rfl rfl rfl (HJ.out _ HAh.out) (exec_store_all 43 _ _ rfl B1 43 [.int .i64 0, .int .i64 0, .bool false] [.int .i64 1, .int .i64 (regW ms ms.length), .bool false] rfl rfl HRc.out rfl (by kernel_rfl) (all_oneCell_toArray (by intro u hu; simp only [List.mem_cons, List.not_mem_nil, or_false] at hu; rcases hu with rfl | rfl | rfl <;> rfl))) ?_
        obtain ⟨X2, hX⟩ : ∃ W, W = X1.setCells B1 0 [.int .i64 1, .int .i64 (regW ms ms.length), .bool false] := ⟨_, rfl⟩
        have HAi := Lib.hid (show Agr W4 X2 [B0, B1] by rw [hX]; exact Agr.setAll (by simp) _ HAh.out)
        have HRe := Lib.hid (show Blk X2 B0 41 #[.string c.nm, .slice c.oa c.arts.length c.ca, .int .i64 c.off, .slice c.oc c.chg.length c.cc, .slice c.oh c.hol.length c.ch, .slice od nn cd, .int .u64 (c.seed : Nat), .int .i64 f, .int .i64 (f + (ms.length : Int)), .int .i64 (metE ms f ms.length), .slice os (metS ms f ms.length).length cs, .slice bo bl bc, .int .i64 BN, .int .i64 BT, .int .i64 BG] by rw [hX]; exact Blk.otherAll g4 _ HRd.out)
        have HRf := Lib.hid (show Blk X2 B1 43 #[.int .i64 1, .int .i64 (regW ms ms.length), .bool false] by rw [hX]; exact Blk.setAll (cs := [.int .i64 0, .int .i64 0, .bool false]) HRc.out rfl)
        rw [← hX]
        clear hX HAh HRc HRd
        refine wpC_runD 12 rfl rfl rfl (HJ.out _ HAi.out) (v := .bool bb) (w' := X2) (by go_simp) ?_
        simp only [Act.put, List.setIfInBounds_toArray, List.set_cons_zero, List.set_cons_succ]
        refine wpC_nil ?_
        have ENDM := trivial
        go_wp2
        have e0 : X2.cell? ⟨B0, 0, none⟩ = some (.string c.nm) := HRe.out.cell 0
        have e1 : X2.cell? ⟨B0, 1, none⟩ = some (.slice c.oa c.arts.length c.ca) := HRe.out.cell 1
        have e2 : X2.cell? ⟨B0, 2, none⟩ = some (.int .i64 c.off) := HRe.out.cell 2
        have e3 : X2.cell? ⟨B0, 3, none⟩ = some (.slice c.oc c.chg.length c.cc) := HRe.out.cell 3
        have e4 : X2.cell? ⟨B0, 4, none⟩ = some (.slice c.oh c.hol.length c.ch) := HRe.out.cell 4
        have e5 : X2.cell? ⟨B0, 5, none⟩ = some (.slice od nn cd) := HRe.out.cell 5
        have e6 : X2.cell? ⟨B0, 6, none⟩ = some (.int .u64 (c.seed : Nat)) := HRe.out.cell 6
        have e7 : X2.cell? ⟨B0, 7, none⟩ = some (.int .i64 f) := HRe.out.cell 7
        have e8 : X2.cell? ⟨B0, 8, none⟩ = some (.int .i64 (f + (ms.length : Int))) := HRe.out.cell 8
        have e9 : X2.cell? ⟨B0, 9, none⟩ = some (.int .i64 (metE ms f ms.length)) := HRe.out.cell 9
        have e10 : X2.cell? ⟨B0, 10, none⟩ = some (.slice os (metS ms f ms.length).length cs) := HRe.out.cell 10
        have e11 : X2.cell? ⟨B0, 11, none⟩ = some (.slice bo bl bc) := HRe.out.cell 11
        have e12 : X2.cell? ⟨B0, 12, none⟩ = some (.int .i64 BN) := HRe.out.cell 12
        have e13 : X2.cell? ⟨B0, 13, none⟩ = some (.int .i64 BT) := HRe.out.cell 13
        have e14 : X2.cell? ⟨B0, 14, none⟩ = some (.int .i64 BG) := HRe.out.cell 14
        have j0 : X2.cell? ⟨B1, 0, none⟩ = some (.int .i64 1) := HRf.out.cell 0
        have j1 : X2.cell? ⟨B1, 1, none⟩ = some (.int .i64 (regW ms ms.length)) := HRf.out.cell 1
        have j2 : X2.cell? ⟨B1, 2, none⟩ = some (.bool false) := HRf.out.cell 2
        exact bodyPost_ret (v := .tuple #[.agg #[.string c.nm, .slice c.oa c.arts.length c.ca, .int .i64 c.off, .slice c.oc c.chg.length c.cc, .slice c.oh c.hol.length c.ch, .slice od nn cd, .int .u64 (c.seed : Nat), .int .i64 f, .int .i64 (f + (ms.length : Int)), .int .i64 (metE ms f ms.length), .slice os (metS ms f ms.length).length cs, .slice bo bl bc, .int .i64 BN, .int .i64 BT, .int .i64 BG], .agg #[.int .i64 1, .int .i64 (regW ms ms.length), .bool false], .bool bb]) (by simp [results, Tryz.results8, go_sem, e0, e1, e2, e3, e4, e5, e6, e7, e8, e9, e10, e11, e12, e13, e14, j0, j1, j2]) rfl (HFIN.out _ HAi.out)
      | false =>
        rw [her, Bool.false_and] at HFIN
        have g1 : ¬ CB = B0 := by have := HBS.out.b1; have := HBS.out.cb; have := HBS.out.mb; omega
        have g2 : ¬ MB = B0 := by have := HBS.out.b1; have := HBS.out.cb; have := HBS.out.mb; omega
        have g3 : ¬ B1 = B0 := by have := HBS.out.b1; have := HBS.out.cb; have := HBS.out.mb; omega
        have g4 : ¬ B0 = B1 := by have := HBS.out.b1; have := HBS.out.cb; have := HBS.out.mb; omega
        have g5 : ¬ CB = B1 := by have := HBS.out.b1; have := HBS.out.cb; have := HBS.out.mb; omega
        have g6 : ¬ MB = B1 := by have := HBS.out.b1; have := HBS.out.cb; have := HBS.out.mb; omega
        have HJ := Lib.hid (fun w'' (ha : Agr W4 w'' [B0, B1]) => show w''.cell? ⟨CB, 0, none⟩ = some (.string c.nm) ∧ w''.cell? ⟨CB, 1, none⟩ = some (.slice c.oa c.arts.length c.ca) ∧ w''.cell? ⟨CB, 2, none⟩ = some (.int .i64 c.off) ∧ w''.cell? ⟨CB, 3, none⟩ = some (.slice c.oc c.chg.length c.cc) ∧ w''.cell? ⟨CB, 4, none⟩ = some (.slice c.oh c.hol.length c.ch) ∧ w''.cell? ⟨CB, 5, none⟩ = some (.slice od nn cd) ∧ w''.cell? ⟨CB, 6, none⟩ = some (.int .u64 (c.seed : Nat)) ∧ w''.cell? ⟨CB, 7, none⟩ = some (.int .i64 f) ∧ w''.cell? ⟨CB, 8, none⟩ = some (.int .i64 (f + (ms.length : Int))) ∧ w''.cell? ⟨CB, 9, none⟩ = some (.int .i64 (metE ms f ms.length)) ∧ w''.cell? ⟨CB, 10, none⟩ = some (.slice os (metS ms f ms.length).length cs) ∧ w''.cell? ⟨CB, 11, none⟩ = some (.slice bo bl bc) ∧ w''.cell? ⟨CB, 12, none⟩ = some (.int .i64 BN) ∧ w''.cell? ⟨CB, 13, none⟩ = some (.int .i64 BT) ∧ w''.cell? ⟨CB, 14, none⟩ = some (.int .i64 BG) ∧ w''.cell? ⟨MB, 0, none⟩ = some (.int .i64 1) ∧ w''.cell? ⟨MB, 1, none⟩ = some (.int .i64 (regW ms ms.length)) ∧ w''.cell? ⟨MB, 2, none⟩ = some (.bool false) from ⟨(ha.blk HCB.out (fun hm => by simp at hm; omega)).cell 0, (ha.blk HCB.out (fun hm => by simp at hm; omega)).cell 1, (ha.blk HCB.out (fun hm => by simp at hm; omega)).cell 2, (ha.blk HCB.out (fun hm => by simp at hm; omega)).cell 3, (ha.blk HCB.out (fun hm => by simp at hm; omega)).cell 4, (ha.blk HCB.out (fun hm => by simp at hm; omega)).cell 5, (ha.blk HCB.out (fun hm => by simp at hm; omega)).cell 6, (ha.blk HCB.out (fun hm => by simp at hm; omega)).cell 7, (ha.blk HCB.out (fun hm => by simp at hm; omega)).cell 8, (ha.blk HCB.out (fun hm => by simp at hm; omega)).cell 9, (ha.blk HCB.out (fun hm => by simp at hm; omega)).cell 10, (ha.blk HCB.out (fun hm => by simp at hm; omega)).cell 11, (ha.blk HCB.out (fun hm => by simp at hm; omega)).cell 12, (ha.blk HCB.out (fun hm => by simp at hm; omega)).cell 13, (ha.blk HCB.out (fun hm => by simp at hm; omega)).cell 14, (ha.blk HM4.out (fun hm => by simp at hm; omega)).cell 0, (ha.blk HM4.out (fun hm => by simp at hm; omega)).cell 1, (ha.blk HM4.out (fun hm => by simp at hm; omega)).cell 2⟩)
        refine wp_region_mask [8, 9, 10] [true, true, true, true, true, true, true, true, false, false, false] (fun w'' => w''.cell? ⟨CB, 0, none⟩ = some (.string c.nm) ∧ w''.cell? ⟨CB, 1, none⟩ = some (.slice c.oa c.arts.length c.ca) ∧ w''.cell? ⟨CB, 2, none⟩ = some (.int .i64 c.off) ∧ w''.cell? ⟨CB, 3, none⟩ = some (.slice c.oc c.chg.length c.cc) ∧ w''.cell? ⟨CB, 4, none⟩ = some (.slice c.oh c.hol.length c.ch) ∧ w''.cell? ⟨CB, 5, none⟩ = some (.slice od nn cd) ∧ w''.cell? ⟨CB, 6, none⟩ = some (.int .u64 (c.seed : Nat)) ∧ w''.cell? ⟨CB, 7, none⟩ = some (.int .i64 f) ∧ w''.cell? ⟨CB, 8, none⟩ = some (.int .i64 (f + (ms.length : Int))) ∧ w''.cell? ⟨CB, 9, none⟩ = some (.int .i64 (metE ms f ms.length)) ∧ w''.cell? ⟨CB, 10, none⟩ = some (.slice os (metS ms f ms.length).length cs) ∧ w''.cell? ⟨CB, 11, none⟩ = some (.slice bo bl bc) ∧ w''.cell? ⟨CB, 12, none⟩ = some (.int .i64 BN) ∧ w''.cell? ⟨CB, 13, none⟩ = some (.int .i64 BT) ∧ w''.cell? ⟨CB, 14, none⟩ = some (.int .i64 BG) ∧ w''.cell? ⟨MB, 0, none⟩ = some (.int .i64 1) ∧ w''.cell? ⟨MB, 1, none⟩ = some (.int .i64 (regW ms ms.length)) ∧ w''.cell? ⟨MB, 2, none⟩ = some (.bool false)) mixed (by kernel_rfl) ?_
        intro KR hR
        have HR := Lib.hid hR
        clear hR
        simp only [marked]
        apply wpM_val rfl
        · (intro w' hw'; obtain ⟨c0, c1, c2, c3, c4, c5, c6, c7, c8, c9, c10, c11, c12, c13, c14, c15, c16, c17⟩ := hw'; go_simp; with_reducible rfl)
        simp only [Act.put, List.setIfInBounds_toArray, List.set_cons_zero, List.set_cons_succ]
        apply wpM_val rfl
        · (intro w' hw'; obtain ⟨c0, c1, c2, c3, c4, c5, c6, c7, c8, c9, c10, c11, c12, c13, c14, c15, c16, c17⟩ := hw'; go_simp; with_reducible rfl)
        simp only [Act.put, List.setIfInBounds_toArray, List.set_cons_zero, List.set_cons_succ]
        apply wpM_val rfl
        · (intro w' hw'; go_simp; with_reducible rfl)
        simp only [Act.put, List.setIfInBounds_toArray, List.set_cons_zero, List.set_cons_succ]
        apply wpM_val rfl
        · (intro w' hw'; go_simp; with_reducible rfl)
        simp only [Act.put, List.setIfInBounds_toArray, List.set_cons_zero, List.set_cons_succ]
        apply wpM_val rfl
        · (intro w' hw'; go_simp; with_reducible rfl)
        simp only [Act.put, List.setIfInBounds_toArray, List.set_cons_zero, List.set_cons_succ]
        ((with_reducible refine wpM_skip ?_ ?_); exact rfl; simp only [Act.put, List.setIfInBounds_toArray, List.set_cons_zero, List.set_cons_succ])
        ((with_reducible refine wpM_skip ?_ ?_); exact rfl; simp only [Act.put, List.setIfInBounds_toArray, List.set_cons_zero, List.set_cons_succ])
        apply wpM_val rfl
        · (intro w' hw'; go_simp; with_reducible rfl)
        simp only [Act.put, List.setIfInBounds_toArray, List.set_cons_zero, List.set_cons_succ]
        refine wpM_nil (HR.out _ ?_)
        clear HR
        obtain ⟨X0, hX0⟩ : ∃ W, W = W4.drew := ⟨_, rfl⟩
        have HAg := Lib.hid (show Agr W4 X0 [B0, B1] by rw [hX0]; exact (Agr.refl _ _).later (Below.refl _ _).drew)
        have HRa : Hid (Blk X0 B0 41 #[.string ⟨#[]⟩, .slice none 0 0, .int .i64 0, .slice none 0 0, .slice none 0 0, .slice none 0 0, .int .u64 0, .int .i64 0, .int .i64 0, .int .i64 0, .slice none 0 0, .slice none 0 0, .int .i64 0, .int .i64 0, .int .i64 0]) := Lib.hid (by rw [hX0]; exact HS4.out.r0.drew)
        have HRb : Hid (Blk X0 B1 43 #[.int .i64 0, .int .i64 0, .bool false]) := Lib.hid (by rw [hX0]; exact HS4.out.r1.drew)
        rw [← hX0]
        clear hX0 HS4
        refine wpC_skipN rfl rfl rfl (HJ.out _ HAg.out) (exec_store_all 41 _ _ rfl B0 41 [.string ⟨#[]⟩, .slice none 0 0, .int .i64 0, .slice none 0 0, .slice none 0 0, .slice none 0 0, .int .u64 0, .int .i64 0, .int .i64 0, .int .i64 0, .slice none 0 0, .slice none 0 0, .int .i64 0, .int .i64 0, .int .i64 0] [.string c.nm, .slice c.oa c.arts.length c.ca, .int .i64 c.off, .slice c.oc c.chg.length c.cc, .slice c.oh c.hol.length c.ch, .slice od nn cd, .int .u64 (c.seed : Nat), .int .i64 f, .int .i64 (f + (ms.length : Int)), .int .i64 (metE ms f ms.length), .slice os (metS ms f ms.length).length cs, .slice bo bl bc, .int .i64 BN, .int .i64 BT, .int .i64 BG] rfl rfl HRa.out rfl (by kernel_rfl) (all_oneCell_toArray (by intro u hu; simp only [List.mem_cons, List.not_mem_nil, or_false] at hu; rcases hu with rfl | rfl | rfl | rfl | rfl | rfl | rfl | rfl | rfl | rfl | rfl | rfl | rfl | rfl | rfl <;> rfl))) ?_
        obtain ⟨X1, hX⟩ : ∃ W, W = X0.setCells B0 0 [.string c.nm, .slice c.oa c.arts.length c.ca, .int .i64 c.off, .slice c.oc c.chg.length c.cc, .slice c.oh c.hol.length c.ch, .slice od nn cd, .int .u64 (c.seed : Nat), .int .i64 f, .int .i64 (f + (ms.length : Int)), .int .i64 (metE ms f ms.length), .slice os (metS ms f ms.length).length cs, .slice bo bl bc, .int .i64 BN, .int .i64 BT, .int .i64 BG] := ⟨_, rfl⟩
        have HAh := Lib.hid (show Agr W4 X1 [B0, B1] by rw [hX]; exact Agr.setAll (by simp) _ HAg.out)
        have HRc := Lib.hid (show Blk X1 B1 43 #[.int .i64 0, .int .i64 0, .bool false] by rw [hX]; exact Blk.otherAll g3 _ HRb.out)
        have HRd := Lib.hid (show Blk X1 B0 41 #[.string c.nm, .slice c.oa c.arts.length c.ca, .int .i64 c.off, .slice c.oc c.chg.length c.cc, .slice c.oh c.hol.length c.ch, .slice od nn cd, .int .u64 (c.seed : Nat), .int .i64 f, .int .i64 (f + (ms.length : Int)), .int .i64 (metE ms f ms.length), .slice os (metS ms f ms.length).length cs, .slice bo bl bc, .int .i64 BN, .int .i64 BT, .int .i64 BG] by rw [hX]; exact Blk.setAll (cs := [.string ⟨#[]⟩, .slice none 0 0, .int .i64 0, .slice none 0 0, .slice none 0 0, .slice none 0 0, .int .u64 0, .int .i64 0, .int .i64 0, .int .i64 0, .slice none 0 0, .slice none 0 0, .int .i64 0, .int .i64 0, .int .i64 0]) HRa.out rfl)
        rw [← hX]
        clear hX HAg HRa HRb
        refine wpC_skipN rfl rfl rfl (HJ.out _ HAh.out) (exec_store_all 43 _ _ rfl B1 43 [.int .i64 0, .int .i64 0, .bool false] [.int .i64 1, .int .i64 (regW ms ms.length), .bool false] rfl rfl HRc.out rfl (by kernel_rfl) (all_oneCell_toArray (by intro u hu; simp only [List.mem_cons, List.not_mem_nil, or_false] at hu; rcases hu with rfl | rfl | rfl <;> rfl))) ?_
        obtain ⟨X2, hX⟩ : ∃ W, W = X1.setCells B1 0 [.int .i64 1, .int .i64 (regW ms ms.length), .bool false] := ⟨_, rfl⟩
        have HAi := Lib.hid (show Agr W4 X2 [B0, B1] by rw [hX]; exact Agr.setAll (by simp) _ HAh.out)
        have HRe := Lib.hid (show Blk X2 B0 41 #[.string c.nm, .slice c.oa c.arts.length c.ca, .int .i64 c.off, .slice c.oc c.chg.length c.cc, .slice c.oh c.hol.length c.ch, .slice od nn cd, .int .u64 (c.seed : Nat), .int .i64 f, .int .i64 (f + (ms.length : Int)), .int .i64 (metE ms f ms.length), .slice os (metS ms f ms.length).length cs, .slice bo bl bc, .int .i64 BN, .int .i64 BT, .int .i64 BG] by rw [hX]; exact Blk.otherAll g4 _ HRd.out)
        have HRf := Lib.hid (show Blk X2 B1 43 #[.int .i64 1, .int .i64 (regW ms ms.length), .bool false] by rw [hX]; exact Blk.setAll (cs := [.int .i64 0, .int .i64 0, .bool false]) HRc.out rfl)
        rw [← hX]
        clear hX HAh HRc HRd
        refine wpC_runD 12 rfl rfl rfl (HJ.out _ HAi.out) (v := .bool false) (w' := X2) (by go_simp) ?_
        simp only [Act.put, List.setIfInBounds_toArray, List.set_cons_zero, List.set_cons_succ]
        refine wpC_nil ?_
        have ENDM := trivial
        go_wp2
        have e0 : X2.cell? ⟨B0, 0, none⟩ = some (.string c.nm) := HRe.out.cell 0
        have e1 : X2.cell? ⟨B0, 1, none⟩ = some (.slice c.oa c.arts.length c.ca) := HRe.out.cell 1
        have e2 : X2.cell? ⟨B0, 2, none⟩ = some (.int .i64 c.off) := HRe.out.cell 2
        have e3 : X2.cell? ⟨B0, 3, none⟩ = some (.slice c.oc c.chg.length c.cc) := HRe.out.cell 3
        have e4 : X2.cell? ⟨B0, 4, none⟩ = some (.slice c.oh c.hol.length c.ch) := HRe.out.cell 4
        have e5 : X2.cell? ⟨B0, 5, none⟩ = some (.slice od nn cd) := HRe.out.cell 5
        have e6 : X2.cell? ⟨B0, 6, none⟩ = some (.int .u64 (c.seed : Nat)) := HRe.out.cell 6
        have e7 : X2.cell? ⟨B0, 7, none⟩ = some (.int .i64 f) := HRe.out.cell 7
        have e8 : X2.cell? ⟨B0, 8, none⟩ = some (.int .i64 (f + (ms.length : Int))) := HRe.out.cell 8
        have e9 : X2.cell? ⟨B0, 9, none⟩ = some (.int .i64 (metE ms f ms.length)) := HRe.out.cell 9
        have e10 : X2.cell? ⟨B0, 10, none⟩ = some (.slice os (metS ms f ms.length).length cs) := HRe.out.cell 10
        have e11 : X2.cell? ⟨B0, 11, none⟩ = some (.slice bo bl bc) := HRe.out.cell 11
        have e12 : X2.cell? ⟨B0, 12, none⟩ = some (.int .i64 BN) := HRe.out.cell 12
        have e13 : X2.cell? ⟨B0, 13, none⟩ = some (.int .i64 BT) := HRe.out.cell 13
        have e14 : X2.cell? ⟨B0, 14, none⟩ = some (.int .i64 BG) := HRe.out.cell 14
        have j0 : X2.cell? ⟨B1, 0, none⟩ = some (.int .i64 1) := HRf.out.cell 0
        have j1 : X2.cell? ⟨B1, 1, none⟩ = some (.int .i64 (regW ms ms.length)) := HRf.out.cell 1
        have j2 : X2.cell? ⟨B1, 2, none⟩ = some (.bool false) := HRf.out.cell 2
        exact bodyPost_ret (v := .tuple #[.agg #[.string c.nm, .slice c.oa c.arts.length c.ca, .int .i64 c.off, .slice c.oc c.chg.length c.cc, .slice c.oh c.hol.length c.ch, .slice od nn cd, .int .u64 (c.seed : Nat), .int .i64 f, .int .i64 (f + (ms.length : Int)), .int .i64 (metE ms f ms.length), .slice os (metS ms f ms.length).length cs, .slice bo bl bc, .int .i64 BN, .int .i64 BT, .int .i64 BG], .agg #[.int .i64 1, .int .i64 (regW ms ms.length), .bool false], .bool false]) (by simp [results, Tryz.results8, go_sem, e0, e1, e2, e3, e4, e5, e6, e7, e8, e9, e10, e11, e12, e13, e14, j0, j1, j2]) rfl (HFIN.out _ HAi.out)
end Go.Proofs.YtkfmmiekajgdjaaGreat