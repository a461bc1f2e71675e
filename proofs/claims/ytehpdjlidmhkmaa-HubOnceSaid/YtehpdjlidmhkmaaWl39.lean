/- Chapter 39: inserted. -/
import Derived.Test.YtehpdjlidmhkmaaStep
namespace Go.Proofs.Ytehpdjlidmhkmaa
open Go.RowKit
attribute [local go_sem] Oper.semAt_some

theorem second_block (w : World) (A B : Obj) : ((w.alloc A).alloc B).drew.heap[w.heap.size + 1]? = some B := by
  have := heap_alloc_new (w.alloc A) B
  rw [World.size_alloc] at this
  exact this

def InsOut (e : TypeId) (n : Nat) (cs : List Value) (w : World) (en : Ending) (w' : World) : Prop :=
  ∃ g cap, en = .returned (.slice (some ⟨g, 0, none⟩) (n + 1) cap) ∧ Row w w' e 3 (.slice (some ⟨g, 0, none⟩) (n + 1) cap) (n + 1) cs

set_option maxRecDepth 100000 in
set_option maxHeartbeats 8000000 in
theorem insertedM_any (o : Option Addr) (cap n k : Nat) (cs : List Value) (x : Msg) (w : World) (hcs : Cells w o cs) (hlen : cs.length = n * 3) (h1 : ∀ u ∈ cs, u.oneCell' = true) (hn : n ≤ 1000) (hcap : n ≤ cap) (hk : k ≤ n) :
    Calls Try.prog 33 #[.slice o n cap, .int .i64 (k : Nat), msgV x] w (InsOut 24 n (cs.take (k * 3) ++ msgC x ++ cs.drop (k * 3)) w) := by
  have HC := Lib.hid hcs
  have HL := Lib.hid hlen
  have H1 := Lib.hid h1
  clear hcs hlen h1
  have r1 : ∀ W : World, (Instr.slice 27 (.slice o n cap) none (some (.int .i64 (k : Nat))) (some (.int .i64 (k : Nat)))).run Try.prog W = .ok (.slice o k k) W := fun W => run_slice_upto elemM o n cap k hk hcap W
  have r2 : ∀ W : World, (Instr.slice 27 (.slice o n cap) (some (.int .i64 (k : Nat))) none none).run Try.prog W = .ok (.slice (fromA o k 3 cap) (n - k) (cap - k)) W := fun W => run_slice_from elemM o n cap k hk hcap W
  have HN := Lib.hid (show k + 1 ≤ 1000000000 by omega)
  have HN2 := Lib.hid (show k + 1 + (n - k) ≤ 1000000000 by omega)
  have HT := Lib.hid (show (cs.take (k * 3)).length = k * 3 by rw [List.length_take, HL.out]; omega)
  have HD := Lib.hid (show (cs.drop (k * 3)).length = (n - k) * 3 by rw [List.length_drop, HL.out]; omega)
  have HO := Lib.hid (show ∀ u ∈ cs.drop (k * 3), u.oneCell' = true from fun u hu => H1.out u (List.mem_of_mem_drop hu))
  obtain ⟨w0, hw0⟩ : ∃ w0 : World, w0 = w.alloc (.cells #[.int .i64 x.f, .int .i64 x.n, .int .i64 x.b] 24) := ⟨_, rfl⟩
  have HBW := Lib.hid (show Below w.heap.size w w0 from by rw [hw0]; exact below_alloc (Below.refl _ _) _)
  have HF := Lib.hid (fun (w' : World) (hw' : Below w0.heap.size w0 w') => (HC.out.from (k := k) (size := 3) (cap := cap) (by rw [HL.out]; omega)).later (below_step HBW.out hw'))
  have HK := Lib.hid (fun (w' : World) (hw' : Below w0.heap.size w0 w') => show w'.cell? ⟨w.heap.size, 0, none⟩ = some (.int .i64 x.f) ∧ w'.cell? ⟨w.heap.size, 1, none⟩ = some (.int .i64 x.n) ∧ w'.cell? ⟨w.heap.size, 2, none⟩ = some (.int .i64 x.b) from by
    have h := (Box3.new w 24 (.int .i64 x.f) (.int .i64 x.n) (.int .i64 x.b))
    rw [← hw0] at h
    exact ⟨cell_kept hw' h.c0, cell_kept hw' h.c1, cell_kept hw' h.c2⟩)
  have HBLK := Lib.hid (show (w0.alloc (.cells #[.int .i64 x.f, .int .i64 x.n, .int .i64 x.b] 24)).drew.heap[w.heap.size + 1]? = some (.cells #[.int .i64 x.f, .int .i64 x.n, .int .i64 x.b] 24) from by rw [hw0]; exact second_block w _ _)
  have HBN := Lib.hid (show Below w0.heap.size w0 (w0.alloc (.cells #[.int .i64 x.f, .int .i64 x.n, .int .i64 x.b] 24)).drew from (below_alloc (Below.refl _ _) _).drew)
  have HLAST := Lib.hid (fun (w' : World) (v : Value) (h : Row w0 w' 24 3 v (k + 1 + (n - k)) (cs.take (k * 3) ++ msgC x ++ cs.drop (k * 3))) => show InsOut 24 n (cs.take (k * 3) ++ msgC x ++ cs.drop (k * 3)) w (.returned v) w' from by
    rw [hw0] at h
    have h' := h.from_alloc.cast (show k + 1 + (n - k) = n + 1 by omega) rfl
    obtain ⟨g, cp, rfl, _, _⟩ := h'.some_of (by omega)
    exact ⟨g, cp, rfl, h'⟩)
  go_enter Try.func33, Try.ntmps33
  go_wp2_with fail
  rw [← hw0]
  have hs0 : w0.heap.size = w.heap.size + 1 := by rw [hw0]; simp
  clear hw0
  obtain ⟨s0, s1, s2⟩ := HK.out w0 (Below.refl _ _)
  go_region_held3 (fun w' => w'.cell? ⟨w.heap.size, 0, none⟩ = some (.int .i64 x.f) ∧ w'.cell? ⟨w.heap.size, 1, none⟩ = some (.int .i64 x.n) ∧ w'.cell? ⟨w.heap.size, 2, none⟩ = some (.int .i64 x.b))
    (first
      | exact HK.out _ hrow2.below
      | exact HK.out _ hrow1.below
      | exact HK.out _ HBN.out
      | exact HK.out _ (Below.refl _ _)
      | exact HK.out _ (Below.refl _ _).drew
      | go_keep)
    (first
      | (refine step_grows (o := ⟨some 13, _, _, _, _, _⟩) (w2 := w0) (xs := cs.take (k * 3)) (news := msgC x) (B := w.heap.size + 1) elemM HBN.out HN.out (by decide) HT.out ((HC.out.take _).later (below_step HBW.out HBN.out)) rfl (msgC_one x) (by rfl) _ _ (by rfl) (by rfl) HBLK.out (by rfl) ?_; intro v1 w1 hrow1 hgrow)
      | (refine step_appendS (o := ⟨some 17, _, _, _, _, _⟩) (w2 := w0) (v := v1) (n := k + 1) (k := n - k) (c := cap - k) (ao := fromA o k 3 cap) (news := cs.drop (k * 3)) elemM hrow1 HN2.out (by decide) HD.out HO.out (HF.out w1 hrow1.below) (by rfl) _ _ (by rfl) (by rfl) (by rfl) ?_; intro v2 w2 hrow2))
  have HR2 := Lib.hid hrow2
  clear hrow2 hrow1 hgrow
  go_wp2
  go_ret
  exact HLAST.out _ _ HR2.out

set_option maxRecDepth 100000 in
set_option maxHeartbeats 8000000 in
theorem insertedB_any (o : Option Addr) (cap n k : Nat) (cs : List Value) (x : BxA) (w : World) (hcs : Cells w o cs) (hlen : cs.length = n * 3) (h1 : ∀ u ∈ cs, u.oneCell' = true) (hn : n ≤ 1000) (hcap : n ≤ cap) (hk : k ≤ n) :
    Calls Try.prog 32 #[.slice o n cap, .int .i64 (k : Nat), bxV x.b x.o x.cap] w (InsOut 42 n (cs.take (k * 3) ++ bxC x ++ cs.drop (k * 3)) w) := by
  have HC := Lib.hid hcs
  have HL := Lib.hid hlen
  have H1 := Lib.hid h1
  clear hcs hlen h1
  have r1 : ∀ W : World, (Instr.slice 22 (.slice o n cap) none (some (.int .i64 (k : Nat))) (some (.int .i64 (k : Nat)))).run Try.prog W = .ok (.slice o k k) W := fun W => run_slice_upto elemB o n cap k hk hcap W
  have r2 : ∀ W : World, (Instr.slice 22 (.slice o n cap) (some (.int .i64 (k : Nat))) none none).run Try.prog W = .ok (.slice (fromA o k 3 cap) (n - k) (cap - k)) W := fun W => run_slice_from elemB o n cap k hk hcap W
  have HN := Lib.hid (show k + 1 ≤ 1000000000 by omega)
  have HN2 := Lib.hid (show k + 1 + (n - k) ≤ 1000000000 by omega)
  have HT := Lib.hid (show (cs.take (k * 3)).length = k * 3 by rw [List.length_take, HL.out]; omega)
  have HD := Lib.hid (show (cs.drop (k * 3)).length = (n - k) * 3 by rw [List.length_drop, HL.out]; omega)
  have HO := Lib.hid (show ∀ u ∈ cs.drop (k * 3), u.oneCell' = true from fun u hu => H1.out u (List.mem_of_mem_drop hu))
  obtain ⟨w0, hw0⟩ : ∃ w0 : World, w0 = w.alloc (.cells #[.int .i64 x.b.f, .int .i64 x.b.x, .slice x.o x.b.ws.length x.cap] 42) := ⟨_, rfl⟩
  have HBW := Lib.hid (show Below w.heap.size w w0 from by rw [hw0]; exact below_alloc (Below.refl _ _) _)
  have HF := Lib.hid (fun (w' : World) (hw' : Below w0.heap.size w0 w') => (HC.out.from (k := k) (size := 3) (cap := cap) (by rw [HL.out]; omega)).later (below_step HBW.out hw'))
  have HK := Lib.hid (fun (w' : World) (hw' : Below w0.heap.size w0 w') => show w'.cell? ⟨w.heap.size, 0, none⟩ = some (.int .i64 x.b.f) ∧ w'.cell? ⟨w.heap.size, 1, none⟩ = some (.int .i64 x.b.x) ∧ w'.cell? ⟨w.heap.size, 2, none⟩ = some (.slice x.o x.b.ws.length x.cap) from by
    have h := (Box3.new w 42 (.int .i64 x.b.f) (.int .i64 x.b.x) (.slice x.o x.b.ws.length x.cap))
    rw [← hw0] at h
    exact ⟨cell_kept hw' h.c0, cell_kept hw' h.c1, cell_kept hw' h.c2⟩)
  have HBLK := Lib.hid (show (w0.alloc (.cells #[.int .i64 x.b.f, .int .i64 x.b.x, .slice x.o x.b.ws.length x.cap] 42)).drew.heap[w.heap.size + 1]? = some (.cells #[.int .i64 x.b.f, .int .i64 x.b.x, .slice x.o x.b.ws.length x.cap] 42) from by rw [hw0]; exact second_block w _ _)
  have HBN := Lib.hid (show Below w0.heap.size w0 (w0.alloc (.cells #[.int .i64 x.b.f, .int .i64 x.b.x, .slice x.o x.b.ws.length x.cap] 42)).drew from (below_alloc (Below.refl _ _) _).drew)
  have HLAST := Lib.hid (fun (w' : World) (v : Value) (h : Row w0 w' 42 3 v (k + 1 + (n - k)) (cs.take (k * 3) ++ bxC x ++ cs.drop (k * 3))) => show InsOut 42 n (cs.take (k * 3) ++ bxC x ++ cs.drop (k * 3)) w (.returned v) w' from by
    rw [hw0] at h
    have h' := h.from_alloc.cast (show k + 1 + (n - k) = n + 1 by omega) rfl
    obtain ⟨g, cp, rfl, _, _⟩ := h'.some_of (by omega)
    exact ⟨g, cp, rfl, h'⟩)
  go_enter Try.func32, Try.ntmps32
  go_wp2_with fail
  rw [← hw0]
  have hs0 : w0.heap.size = w.heap.size + 1 := by rw [hw0]; simp
  clear hw0
  obtain ⟨s0, s1, s2⟩ := HK.out w0 (Below.refl _ _)
  go_region_held3 (fun w' => w'.cell? ⟨w.heap.size, 0, none⟩ = some (.int .i64 x.b.f) ∧ w'.cell? ⟨w.heap.size, 1, none⟩ = some (.int .i64 x.b.x) ∧ w'.cell? ⟨w.heap.size, 2, none⟩ = some (.slice x.o x.b.ws.length x.cap))
    (first
      | exact HK.out _ hrow2.below
      | exact HK.out _ hrow1.below
      | exact HK.out _ HBN.out
      | exact HK.out _ (Below.refl _ _)
      | exact HK.out _ (Below.refl _ _).drew
      | go_keep)
    (first
      | (refine step_grows (o := ⟨some 13, _, _, _, _, _⟩) (w2 := w0) (xs := cs.take (k * 3)) (news := bxC x) (B := w.heap.size + 1) elemB HBN.out HN.out (by decide) HT.out ((HC.out.take _).later (below_step HBW.out HBN.out)) rfl (bxC_one x) (by rfl) _ _ (by rfl) (by rfl) HBLK.out (by rfl) ?_; intro v1 w1 hrow1 hgrow)
      | (refine step_appendS (o := ⟨some 17, _, _, _, _, _⟩) (w2 := w0) (v := v1) (n := k + 1) (k := n - k) (c := cap - k) (ao := fromA o k 3 cap) (news := cs.drop (k * 3)) elemB hrow1 HN2.out (by decide) HD.out HO.out (HF.out w1 hrow1.below) (by rfl) _ _ (by rfl) (by rfl) (by rfl) ?_; intro v2 w2 hrow2))
  have HR2 := Lib.hid hrow2
  clear hrow2 hrow1 hgrow
  go_wp2
  go_ret
  exact HLAST.out _ _ HR2.out
end Go.Proofs.Ytehpdjlidmhkmaa
