/- Slices that are read: of integers, and of structs of two integers; kept by whatever leaves the old blocks as they were. No statement about the program. -/
import Derived.Test.YtmcodendnpjlaaaDoorKit
namespace Go.Proofs.YtmcodendnpjlaaaDoor
open Go.RowKit

/-- The cells of a slice of integers, from its address on (nil only if it is empty). -/
def Ints (w : World) (o : Option Addr) (l : List Int) : Prop :=
  ∀ i, i < l.length → ∃ b off, o = some ⟨b, off, none⟩ ∧ w.cell? ⟨b, off + i, none⟩ = some (.int .i64 (l.getD i 0))

/-- The cells of a slice of structs of two integers. -/
def Twos (w : World) (o : Option Addr) (l : List (Int × Int)) : Prop :=
  ∀ i, i < l.length → ∃ b off, o = some ⟨b, off, none⟩ ∧ w.cell? ⟨b, off + i * 2, none⟩ = some (.int .i64 (l.getD i (0, 0)).1) ∧ w.cell? ⟨b, off + i * 2 + 1, none⟩ = some (.int .i64 (l.getD i (0, 0)).2)

section
variable {w w' : World} {o : Option Addr}

theorem cell_lt {p : Addr} {v : Value} (h : w.cell? p = some v) : p.block < w.heap.size := by
  unfold World.cell? at h
  rcases Nat.lt_or_ge p.block w.heap.size with hl | hl
  · exact hl
  · simp [Array.getElem?_eq_none hl] at h

theorem cell_kept (hb : Below w.heap.size w w') {p : Addr} {v : Value} (h : w.cell? p = some v) : w'.cell? p = some v :=
  (hb.cell (cell_lt h)).trans h

theorem Ints.later {l : List Int} (h : Ints w o l) (hb : Below w.heap.size w w') : Ints w' o l := fun i hi => by
  obtain ⟨b, off, ho, hc⟩ := h i hi
  exact ⟨b, off, ho, cell_kept hb hc⟩

theorem Twos.later {l : List (Int × Int)} (h : Twos w o l) (hb : Below w.heap.size w w') : Twos w' o l := fun i hi => by
  obtain ⟨b, off, ho, hc, hd⟩ := h i hi
  exact ⟨b, off, ho, cell_kept hb hc, cell_kept hb hd⟩

theorem two_new {t : TypeId} {a b : Value} (hb : Below (w.alloc (.cells #[a, b] t)).heap.size (w.alloc (.cells #[a, b] t)) w') :
    w'.cell? ⟨w.heap.size, 0, none⟩ = some a ∧ w'.cell? ⟨w.heap.size, 1, none⟩ = some b := by
  have h := (Blk.new w t #[a, b]).later hb
  exact ⟨h.cell 0, h.cell 1⟩

theorem three_new {t : TypeId} {a b c : Value} (hb : Below (w.alloc (.cells #[a, b, c] t)).heap.size (w.alloc (.cells #[a, b, c] t)) w') :
    w'.cell? ⟨w.heap.size, 0, none⟩ = some a ∧ w'.cell? ⟨w.heap.size, 1, none⟩ = some b ∧ w'.cell? ⟨w.heap.size, 2, none⟩ = some c := by
  have h := (Blk.new w t #[a, b, c]).later hb
  exact ⟨h.cell 0, h.cell 1, h.cell 2⟩

/-- A struct of three cells, boxed by a call at its beginning; nothing else that was there has changed. -/
structure Box3 (w wr : World) (a b c : Value) : Prop where
  c0 : wr.cell? ⟨w.heap.size, 0, none⟩ = some a
  c1 : wr.cell? ⟨w.heap.size, 1, none⟩ = some b
  c2 : wr.cell? ⟨w.heap.size, 2, none⟩ = some c
  below : Below w.heap.size w wr

theorem Box3.new (w : World) (t : TypeId) (a b c : Value) : Box3 w (w.alloc (.cells #[a, b, c] t)) a b c :=
  have h := Blk.new w t #[a, b, c]
  ⟨h.cell 0, h.cell 1, h.cell 2, below_alloc (Below.refl _ _) _⟩

theorem Box3.later {w wr wr' : World} {a b c : Value} (h : Box3 w wr a b c) (hb : Below wr.heap.size wr wr') : Box3 w wr' a b c :=
  ⟨cell_kept hb h.c0, cell_kept hb h.c1, cell_kept hb h.c2, below_step h.below hb⟩

theorem Box3.alloc {w wr : World} {a b c : Value} (h : Box3 w wr a b c) (o : Obj) : Box3 w (wr.alloc o) a b c := h.later (below_alloc (Below.refl _ _) o)

theorem Ints.nil : Ints w o [] := fun _ hi => absurd hi (Nat.not_lt_zero _)
theorem Twos.nil : Twos w o [] := fun _ hi => absurd hi (Nat.not_lt_zero _)
end
end Go.Proofs.YtmcodendnpjlaaaDoor
