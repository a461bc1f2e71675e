/- Chapter 39: arguments that came in, opened: a message, a slice of messages, a slice of inboxes; the form's reach. No statement about the program. -/
import Derived.Test.YtehpdjlidmhkmaaRowK
import Derived.Test.YtehpdjlidmhkmaaMem39
import Derived.Handed
namespace Go.Proofs.Ytehpdjlidmhkmaa
open Go.ChangeShapes Go.WideShapes Go.ChangeAt Go.RowKit Go.Deep Go.Joins

instance : Inhabited Msg := ⟨Msg.zero⟩
instance : Inhabited BxA := ⟨⟨Bx.zero, none, 0⟩⟩
theorem len3 {α : Type} : ∀ {l : List α}, l.length = 3 → ∃ a b c, l = [a, b, c]
  | [a, b, c], _ => ⟨a, b, c, rfl⟩

section
variable {H : Type} {enc : TypeId × Value → H} {P : Program} {w : World}

/-- The builder of a row, with the form's reach handed on. -/
theorem returns_reach {a : Assume} {C : Checked} {os : Os} {f : FuncId} {fn : Func} {s : ChangeSpec} {conds : List PathCond} {apart fresh handsOn again : Bool}
    (own : ownKnob C.prog.godebug = none) (started : os.Started) (noInit : C.prog.inits.idxOf? f = none) (hfn : C.prog.funcs[f]? = some fn)
    (witness : ∃ (w : World) (tape : Tape) (i : Input), w.os = os ∧ (w.forCall tape i).Shaped C.prog ∧ i.vars = [] ∧ Input.okWide C.prog (w.forCall tape i) .any w.heap.size f i ∧
      s.pre6 enc C.prog fn conds apart (w.forCall tape i).memory i.args ∧ a.holds C.prog (lone (Frame.enter C.prog f i.args .normal) [] (w.forCall tape i)))
    (contract : ∀ (W : World) (base : Nat) (args : Array Value) (ds gs : List (DataW H)) (before : List MemPlace),
      (∀ (j : Nat) t v, fn.params[j]? = some t → args[j]? = some v → Value.okWide C.prog W .any base t v) →
      DataW.Whole enc C.prog fn.params.toList s.vars apart W args.toList ds gs before →
      (∀ x ∈ DataW.weightsEach C.prog (fn.params.toList ++ s.plain.varTypes C.prog) (ds ++ gs), x ≤ reachBytes) →
      Calls C.prog f args W fun e W' => ∃ v, e = .returned v ∧ s.post enc C.prog fn apart fresh handsOn again W args v W') :
    ReturnsInHanded a C os f .any (s.pre6 enc C.prog fn conds apart) (s.post enc C.prog fn apart fresh handsOn again) := by
  refine returnsInHanded_of_calls own started noInit witness ?_
  intro w tape i _ _ _ hok hpre hholds
  obtain ⟨_, _, _, fn', hfn', _, _, _, _, hval⟩ := hok
  have e : fn' = fn := Option.some.inj (hfn'.symm.trans hfn)
  subst e
  obtain ⟨⟨ds, gs, before, hw, hc⟩, hz⟩ := hpre
  have hw' := DataW.Whole.of_heap (w' := w.forCall tape i) (by rfl) hw
  have hq := hz.weights hw
  rw [List.all_eq_true] at hq
  refine (contract (w.forCall tape i) w.heap.size i.args ds gs before hval hw' (fun x hx => by simpa using hq x hx)).mono fun e W' ⟨v, he, hp⟩ => ?_
  subst he
  exact ChangeSpec.post_blind hp

theorem weightsAll_mem {e : TypeId} : ∀ {l : List (DataW H)} {d : DataW H} {x : Nat}, d ∈ l → x ∈ d.weights P e → x ∈ DataW.weightsAll P e l
  | [], _, _, h, _ => by cases h
  | d' :: r, d, x, h, hx => by
    rw [DataW.weightsAll]
    rcases List.mem_cons.1 h with rfl | h
    · exact List.mem_append_left _ hx
    · exact List.mem_append_right _ (weightsAll_mem h hx)
theorem weightsEach_mem : ∀ {ts : List TypeId} {l : List (DataW H)} {j : Nat} {t : TypeId} {d : DataW H} {x : Nat}, ts[j]? = some t → l[j]? = some d → x ∈ d.weights P t → x ∈ DataW.weightsEach P ts l
  | [], _, j, _, _, _, h, _, _ => by simp at h
  | t' :: ts, [], j, _, _, _, _, h, _ => by simp at h
  | t' :: ts, d' :: l, 0, t, d, x, h1, h2, hx => by
    simp at h1 h2
    subst h1
    subst h2
    rw [DataW.weightsEach]
    exact List.mem_append_left _ hx
  | t' :: ts, d' :: l, j + 1, t, d, x, h1, h2, hx => by
    rw [DataW.weightsEach]
    exact List.mem_append_right _ (weightsEach_mem (by simpa using h1) (by simpa using h2) hx)

/-- A struct of three one-cell fields, in cells. -/
theorem three_fields {e t0 t1 t2 : TypeId} {fs : Array Field} {n : Nat} {cs : List Value} {y : DataW H × List MemPlace} (hs : P.underlying e = some (.struct fs)) (hone : oneCellFields P fs = true) (hC : P.cellsOf e = 3) (hf : fs.map (·.type) = #[t0, t1, t2])
    (h : DataW.trod enc P w 0 (fun _ => true) true n e cs = some y) : ∃ c0 c1 c2 k y0 y1 y2, cs = [c0, c1, c2] ∧ DataW.trod enc P w 0 (fun _ => true) true k t0 [c0] = some y0 ∧ DataW.trod enc P w 0 (fun _ => true) true k t1 [c1] = some y1 ∧ DataW.trod enc P w 0 (fun _ => true) true k t2 [c2] = some y2 ∧ y.1 = .agg [y0.1, y1.1, y2.1] := by
  obtain ⟨xs, k, _, hy, hlen, hxl, hx⟩ := DataW.trod_struct hs h
  have hsz : fs.size = 3 := by have := congrArg Array.size hf; simpa using this
  rw [hC] at hlen
  rw [hsz] at hxl
  have ht : ∀ j (hj : j < 3), (fs[j]'(by omega)).type = #[t0, t1, t2][j]'(by simpa using hj) := fun j hj => by
    have := congrArg (fun z : Array TypeId => z[j]?) hf
    simp [hsz, hj] at this
    simpa [hj] using this
  obtain ⟨c0, c1, c2, rfl⟩ := len3 hlen
  obtain ⟨y0, y1, y2, rfl⟩ := len3 hxl
  · have g : ∀ j (hj : j < 3), DataW.trod enc P w 0 (fun _ => true) true k (#[t0, t1, t2][j]'(by simpa using hj)) [([c0, c1, c2] : List Value)[j]'(by simpa using hj)] = some (([y0, y1, y2] : List (DataW H × List MemPlace))[j]'(by simpa using hj)) := fun j hj => by
      have hfj : fs[j]? = some (fs[j]'(by omega)) := Array.getElem?_eq_getElem (by omega)
      obtain ⟨ho, hk⟩ := hone_of hone j _ hfj
      have h3 := hx j _ hfj
      rw [ho, hk, List.drop_eq_getElem_cons (by simpa using hj), List.take_succ_cons, List.take_zero, ht j hj] at h3
      exact h3.trans (List.getElem?_eq_getElem (by simpa using hj))
    exact ⟨c0, c1, c2, k, y0, y1, y2, rfl, g 0 (by omega), g 1 (by omega), g 2 (by omega), by rw [hy]; rfl⟩
end

section
variable {H : Type} {enc : TypeId × Value → H} {w : World}
/-- A slice of messages. -/
theorem msgs_of {n : Nat} {v : Value} {y : DataW H × List MemPlace} (h : DataW.trod enc Try.prog w 0 (fun _ => true) true n 27 [v] = some y) :
    ∃ (o : Option Addr) (cap : Nat) (l : List Msg), v = .slice o l.length cap ∧ Msgs w o l ∧ l.length ≤ cap ∧ l.length ≤ 9223372036854775807 ∧ ((∀ x ∈ y.1.weights Try.prog 27, x ≤ reachBytes) → l.length ≤ 6000000000000) := by
  rcases open_slice Try.underlying27 h with ⟨h0, _⟩ | ⟨a, len, cap, m, n', D, Pl, hcs, _, hl, hm, hmm, hy, hx⟩
  · simp only [List.cons.injEq, and_true] at h0
    exact ⟨none, 0, [], h0, Msgs.nil, by simp, by simp, fun _ => by simp⟩
  · simp only [List.cons.injEq, and_true] at hcs
    have hlm : len ≤ m := by rw [hmm]; simp; exact hl
    have hC : Try.prog.cellsOf 24 = 3 := by kernel_rfl
    have hx' : ∀ i, i < len → ∃ x : Msg, w.cell? (a.add (i * 3)) = some (.int .i64 x.f) ∧ w.cell? (a.add (i * 3 + 1)) = some (.int .i64 x.n) ∧ w.cell? (a.add (i * 3 + 2)) = some (.int .i64 x.b) := fun i hi => by
      obtain ⟨cs', h1, h2⟩ := hx i (by omega)
      rw [hC] at h1
      obtain ⟨_, hlen, hcell⟩ := World.cells?_some h1
      obtain ⟨c0, c1, c2, k, y0, y1, y2, rfl, b0, b1, b2, _⟩ := three_fields Try.underlying24 (by kernel_rfl) hC (t0 := 3) (t1 := 3) (t2 := 3) (by simp) h2
      obtain ⟨x0, rfl, _⟩ := fld_int Try.underlying3 b0
      obtain ⟨x1, rfl, _⟩ := fld_int Try.underlying3 b1
      obtain ⟨x2, rfl, _⟩ := fld_int Try.underlying3 b2
      refine ⟨⟨x0, x1, x2⟩, ?_, ?_, ?_⟩
      · have := hcell 0 (by omega); rw [add_add] at this; simpa using this
      · have := hcell 1 (by omega); rw [add_add] at this; simpa using this
      · have := hcell 2 (by omega); rw [add_add] at this; simpa using this
    obtain ⟨f, hf⟩ := choose_lt hx'
    refine ⟨some a, cap, (List.range len).map f, by rw [hcs]; simp, fun i hi => ?_, by simpa using hl, by simp [maxLen] at hm ⊢; omega, fun hw => ?_⟩
    · have hi' : i < len := by simpa using hi
      obtain ⟨b, off, spot⟩ := a
      have hspot : spot = none := by simpa [Addr.add] using World.cell?_spot (hf 0 (by omega)).1
      subst hspot
      refine ⟨b, off, rfl, ?_⟩
      have e : getM ((List.range len).map f) i = f i := by simp [getM, hi']
      rw [e]
      obtain ⟨h0, h1, h2⟩ := hf i hi'
      simp only [Addr.add_lit, ← Nat.add_assoc] at h0 h1 h2
      exact ⟨h0, h1, h2⟩
    · have hb : Try.prog.bytesOf 24 = 24 := by kernel_rfl
      rw [hy] at hw
      have := hw ((((List.range len).map D).length + ((List.range (m - len)).map fun j => D (len + j)).length) * Try.prog.bytesOf 24) (by
        show _ ∈ DataW.weights _ _ _
        rw [DataW.weights, Try.underlying27]
        exact List.mem_cons_self ..)
      rw [hb] at this
      simp [reachBytes] at this ⊢
      omega
/-- A parameter that is a message. -/
theorem msgP_of {r : Reach} {b0 : Nat} {v : Value} {d : DataW H} {p : List MemPlace} (hv : Value.okWide Try.prog w r b0 24 v) (h : DataW.Trod enc Try.prog w 0 (fun _ => true) true 24 v d p) : ∃ x : Msg, v = msgV x := by
  obtain ⟨cs, n, rfl, hl, hf⟩ := agg_of Try.underlying24 (by kernel_rfl) (by kernel_rfl) hv h
  have hl3 : cs.length = 3 := hl
  obtain ⟨c0, c1, c2, rfl⟩ := len3 hl3
  obtain ⟨k0, _, a0, b0⟩ := hf 0 _ rfl
  obtain ⟨k1, _, a1, b1⟩ := hf 1 _ rfl
  obtain ⟨k2, _, a2, b2⟩ := hf 2 _ rfl
  obtain ⟨x0, rfl, _⟩ := fld_int Try.underlying3 b0
  obtain ⟨x1, rfl, _⟩ := fld_int Try.underlying3 b1
  obtain ⟨x2, rfl, _⟩ := fld_int Try.underlying3 b2
  simp at a0 a1 a2
  exact ⟨⟨x0, x1, x2⟩, by rw [a0, a1, a2]⟩
/-- A parameter that is a slice of messages. -/
theorem msgsP_of {r : Reach} {b0 : Nat} {v : Value} {d : DataW H} {p : List MemPlace} (hv : Value.okWide Try.prog w r b0 27 v) (h : DataW.Trod enc Try.prog w 0 (fun _ => true) true 27 v d p) :
    ∃ (o : Option Addr) (cap : Nat) (l : List Msg), v = .slice o l.length cap ∧ Msgs w o l ∧ l.length ≤ 9223372036854775807 := by
  obtain ⟨a', len', cap', rfl⟩ := okWide_slice Try.underlying27 hv
  obtain ⟨n, hn⟩ := h
  obtain ⟨o, cap, l, h1, h2, h3, h4, _⟩ := msgs_of hn
  exact ⟨o, cap, l, h1, h2, h4⟩
/-- A parameter that is a slice of inboxes. -/
theorem bxsP_of {r : Reach} {b0 : Nat} {v : Value} {d : DataW H} {p : List MemPlace} (hv : Value.okWide Try.prog w r b0 22 v) (h : DataW.Trod enc Try.prog w 0 (fun _ => true) true 22 v d p) (hw : ∀ x ∈ d.weights Try.prog 22, x ≤ reachBytes) :
    ∃ (o : Option Addr) (cap : Nat) (l : List Bx), v = .slice o l.length cap ∧ Bxs w o l ∧ l.length ≤ 1000000000000000 := by
  obtain ⟨a', len', cap', rfl⟩ := okWide_slice Try.underlying22 hv
  obtain ⟨n, hn⟩ := h
  have hn' : DataW.trod enc Try.prog w 0 (fun _ => true) true n 22 [.slice a' len' cap'] = some (d, p) := hn
  rcases open_slice Try.underlying22 hn' with ⟨h0, _⟩ | ⟨a, len, cap, m, n', D, Pl, hcs, _, hl, hm, hmm, hy, hx⟩
  · simp only [List.cons.injEq, and_true] at h0
    exact ⟨none, 0, [], h0, Bxs.nil, by simp⟩
  · simp only [List.cons.injEq, and_true] at hcs
    have hlm : len ≤ m := by rw [hmm]; simp; exact hl
    have hC : Try.prog.cellsOf 42 = 3 := by kernel_rfl
    have hd : d = .slice ((List.range len).map D) ((List.range (m - len)).map fun j => D (len + j)) := congrArg Prod.fst hy
    rw [hd] at hw
    have hw' : ∀ x ∈ (((List.range len).map D).length + ((List.range (m - len)).map fun j => D (len + j)).length) * Try.prog.bytesOf 42 :: (DataW.weightsAll Try.prog 42 ((List.range len).map D) ++ DataW.weightsAll Try.prog 42 ((List.range (m - len)).map fun j => D (len + j))), x ≤ reachBytes := by
      rw [DataW.weights, Try.underlying22] at hw
      exact hw
    have hx' : ∀ i, i < len → ∃ x : BxA, GoodA w x ∧ w.cell? (a.add (i * 3)) = some (.int .i64 x.b.f) ∧ w.cell? (a.add (i * 3 + 1)) = some (.int .i64 x.b.x) ∧ w.cell? (a.add (i * 3 + 2)) = some (.slice x.o x.b.ws.length x.cap) := fun i hi => by
      obtain ⟨cs', h1, h2⟩ := hx i (by omega)
      rw [hC] at h1
      obtain ⟨_, hlen, hcell⟩ := World.cells?_some h1
      obtain ⟨c0, c1, c2, k, y0, y1, y2, rfl, b0, b1, b2, hag⟩ := three_fields Try.underlying42 (by kernel_rfl) hC (t0 := 3) (t1 := 3) (t2 := 27) (by simp) h2
      obtain ⟨x0, rfl, _⟩ := fld_int Try.underlying3 b0
      obtain ⟨x1, rfl, _⟩ := fld_int Try.underlying3 b1
      obtain ⟨oo, cp, ws, rfl, k1, k2, k3, k4⟩ := msgs_of b2
      have hag' : D i = .agg [y0.1, y1.1, y2.1] := hag
      refine ⟨⟨⟨x0, x1, ws⟩, oo, cp⟩, ⟨k1, k4 (fun x hx2 => ?_), k2⟩, ?_, ?_, ?_⟩
      · refine hw' x (List.mem_cons_of_mem _ (List.mem_append_left _ (weightsAll_mem (d := D i) (List.mem_map.2 ⟨i, List.mem_range.2 hi, rfl⟩) ?_)))
        rw [hag', DataW.weights, Try.underlying42]
        exact weightsEach_mem (j := 2) rfl rfl hx2
      · have := hcell 0 (by omega); rw [add_add] at this; simpa using this
      · have := hcell 1 (by omega); rw [add_add] at this; simpa using this
      · have := hcell 2 (by omega); rw [add_add] at this; simpa using this
    obtain ⟨f, hf⟩ := choose_lt hx'
    have hb : Try.prog.bytesOf 42 = 40 := by kernel_rfl
    refine ⟨some a, cap, (List.range len).map (fun i => (f i).b), by rw [hcs]; simp, fun i hi => ?_, ?_⟩
    · have hi' : i < len := by simpa using hi
      obtain ⟨b, off, spot⟩ := a
      have hspot : spot = none := by simpa [Addr.add] using World.cell?_spot (hf 0 (by omega)).2.1
      subst hspot
      refine ⟨b, off, rfl, ?_⟩
      have e : getB ((List.range len).map (fun i => (f i).b)) i = (f i).b := by simp [getB, hi']
      rw [e]
      obtain ⟨hg, h0, h1, h2⟩ := hf i hi'
      simp only [Addr.add_lit, ← Nat.add_assoc] at h0 h1 h2
      exact ⟨(f i).o, (f i).cap, hg.le, hg.cap, hg.ms, h0, h1, h2⟩
    · have := hw' _ (List.mem_cons_self ..)
      rw [hb] at this
      simp [reachBytes] at this ⊢
      omega
end
end Go.Proofs.Ytehpdjlidmhkmaa
