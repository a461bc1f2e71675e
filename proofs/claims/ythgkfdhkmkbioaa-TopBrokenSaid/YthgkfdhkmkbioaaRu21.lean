/- append(append(T{}, b...), x), in whatever order; plans of Schedule, as CheckPlan reads them. -/
import Derived.Test.YthgkfdhkmkbioaaRt21
import Derived.Test.YthgkfdhkmkbioaaPk21
namespace Go.Proofs.Ythgkfdhkmkbioaa
open Go.RowKit Go.Shelf

/-- The whole region with an empty literal ahead: z: the literal. -/
def AppZ (B : Nat) (w wr : World) (e : TypeId) (size : Nat) (rest : List Nat) (z p q r s : Nat) (n1 : Nat) (xs1 : List Value) (cs : Array Value) (v0 x y u f : Value) (n2 : Nat) (xs2 : List Value) : Prop :=
  (z ∈ rest ∧ (p ∈ rest ∧ r ∈ rest ∧ s ∈ rest) ∧ Below B w wr ∧ w.heap.size ≤ wr.heap.size ∧ (q ∉ rest → ∃ X, y = .slice (some ⟨X, 0, none⟩) 1 1 ∧ Blk wr X e cs)) ∨ (z ∉ rest ∧ (∃ X, v0 = .slice (some ⟨X, 0, none⟩) 0 0) ∧ AppI B w wr e size rest p q r s v0 0 [] n1 xs1 cs x y u f n2 xs2)
section
variable {B : Nat} {w wr w' : World} {e : TypeId} {size : Nat} {rest : List Nat} {z p q r s : Nat} {n1 : Nat} {xs1 : List Value} {cs : Array Value} {v0 x y u f : Value} {n2 : Nat} {xs2 : List Value}
theorem AppZ.bel (h : AppZ B w wr e size rest z p q r s n1 xs1 cs v0 x y u f n2 xs2) : Below B w wr := by
  rcases h with ⟨_, _, h, _⟩ | ⟨_, _, h⟩
  · exact h
  · exact h.bel
theorem AppZ.lit (h : AppZ B w wr e size rest z p q r s n1 xs1 cs v0 x y u f n2 xs2) (hn : rest.Nodup) (hz : z ∈ rest) (hd : p ≠ z ∧ q ≠ z ∧ r ≠ z ∧ s ≠ z) (hB : B ≤ w.heap.size) : AppZ B w (wr.alloc (.cells #[] e)) e size (rest.erase z) z p q r s n1 xs1 cs (.slice (some ⟨wr.heap.size, 0, none⟩) 0 0) x y u f n2 xs2 := by
  have hb : Below wr.heap.size wr (wr.alloc (.cells #[] e)) := below_alloc (Below.refl _ _) _
  rcases h with ⟨_, ⟨h1, h2, h3⟩, h4, h5, h6⟩ | ⟨h, _⟩
  · refine .inr ⟨hn.not_mem_erase, ⟨_, rfl⟩, .inl ⟨erase_in h2 hd.2.2.1, erase_in h3 hd.2.2.2, ⟨h4.trans (hb.mono (Nat.le_trans hB h5)), Nat.le_trans h5 hb.size, fun _ => World.ownsRow_lit wr #[] 0 (Nat.le_trans hB h5) (by decide) (by simp), fun hm => absurd (erase_in h1 hd.1) hm, fun hm => ?_⟩⟩⟩
    obtain ⟨X, h7, h8⟩ := h6 (not_erase hm hd.2.1)
    refine ⟨X, h7, h8.later hb, fun _ e2 => ?_, fun hm2 => absurd (erase_in h1 hd.1) hm2⟩
    have e3 : wr.heap.size = X := by simpa [Value.ownBlock] using e2
    have := h8.lt
    omega
  · exact absurd hz h
theorem AppZ.second (h : AppZ B w wr e size rest z p q r s n1 xs1 cs v0 x y u f n2 xs2) (hn : rest.Nodup) (hq : q ∈ rest) (hd : p ≠ q ∧ r ≠ q ∧ s ≠ q ∧ z ≠ q) (hB : B ≤ w.heap.size) : AppZ B w (wr.alloc (.cells cs e)) e size (rest.erase q) z p q r s n1 xs1 cs v0 x (.slice (some ⟨wr.heap.size, 0, none⟩) 1 1) u f n2 xs2 := by
  have hb : Below wr.heap.size wr (wr.alloc (.cells cs e)) := below_alloc (Below.refl _ _) _
  rcases h with ⟨h0, ⟨h1, h2, h3⟩, h4, h5, h6⟩ | ⟨h0, hv, h⟩
  · exact .inl ⟨erase_in h0 hd.2.2.2, ⟨erase_in h1 hd.1, erase_in h2 hd.2.1, erase_in h3 hd.2.2.1⟩, h4.trans (hb.mono (Nat.le_trans hB h5)), Nat.le_trans h5 hb.size, fun _ => ⟨wr.heap.size, rfl, Blk.new ..⟩⟩
  · exact .inr ⟨fun hm => h0 (in_erase hm), hv, h.second hn hq ⟨hd.1, hd.2.1, hd.2.2.1⟩ hB⟩
theorem AppZ.in' (h : AppZ B w wr e size rest z p q r s n1 xs1 cs v0 x y u f n2 xs2) (hz : z ∉ rest) : (∃ X, v0 = .slice (some ⟨X, 0, none⟩) 0 0) ∧ AppI B w wr e size rest p q r s v0 0 [] n1 xs1 cs x y u f n2 xs2 := by
  rcases h with ⟨h, _⟩ | ⟨_, hv, h⟩
  · exact absurd h hz
  · exact ⟨hv, h⟩
theorem AppZ.out' {c : Nat} {x' y' u' f' : Value} {wr' : World} (hz : z ∉ rest) (hv : ∃ X, v0 = .slice (some ⟨X, 0, none⟩) 0 0) (h : AppI B w wr' e size (rest.erase c) p q r s v0 0 [] n1 xs1 cs x' y' u' f' n2 xs2) : AppZ B w wr' e size (rest.erase c) z p q r s n1 xs1 cs v0 x' y' u' f' n2 xs2 := .inr ⟨fun hm => hz (in_erase hm), hv, h⟩
theorem AppZ.fin (h : AppZ B w wr e size [] z p q r s n1 xs1 cs v0 x y u f n2 xs2) : f = u ∧ Below B w wr ∧ wr.ownsRow B e size u n2 xs2 := by
  rcases h with ⟨h, _⟩ | ⟨_, _, h⟩
  · cases h
  · exact h.fin
end
/-- Schedule's table, as CheckPlan reads it. -/
theorem sched_plan {w : World} {AL OB n m : Nat} {L : List Int} {P : Nat → Nat → Int} (h1 : Blk w OB 23 (rowsC (fun i => .slice (some ⟨AL, i * m, none⟩) m m) n)) (h2 : Blk w AL 3 (intsC L)) (hl : L.length = n * m) (h3 : ∀ i t, i < n → t < m → L.getD (i * m + t) 0 = P i t) : PlanM w (some ⟨OB, 0, none⟩) n m P := fun i hi => by
  refine ⟨OB, 0, some ⟨AL, i * m, none⟩, m, rfl, ?_, fun t ht => ?_⟩
  · rw [Nat.zero_add]
    exact (h1.cell i).trans (rowsC_get hi)
  · have ht2 : t < m := by simpa using ht
    refine ⟨AL, i * m, rfl, ?_⟩
    rw [(h2.cell _).trans (intsC_get (by rw [hl]; exact flat_lt hi ht2)), h3 i t hi ht2]
    simp [ht2]
end Go.Proofs.Ythgkfdhkmkbioaa
