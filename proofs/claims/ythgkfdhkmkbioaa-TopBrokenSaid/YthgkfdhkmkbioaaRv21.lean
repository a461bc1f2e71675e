/- append(append(T{}, b...), x) beside another assignment, or as an argument of a call. -/
import Derived.Test.YthgkfdhkmkbioaaRu21
namespace Go.Proofs.Ythgkfdhkmkbioaa
open Go.RowKit Go.Shelf

section
variable {B : Nat} {w wr w' : World} {e : TypeId} {size : Nat} {rest : List Nat} {z p q r s : Nat} {v0 : Value} {n0 : Nat} {xs0 : List Value} {n1 : Nat} {xs1 : List Value} {cs : Array Value} {x y u f : Value} {n2 : Nat} {xs2 : List Value}
theorem AppI.erase (h : AppI B w wr e size rest p q r s v0 n0 xs0 n1 xs1 cs x y u f n2 xs2) {c : Nat} (hp : p ≠ c) (hq : q ≠ c) (hr : r ≠ c) (hs : s ≠ c) : AppI B w wr e size (rest.erase c) p q r s v0 n0 xs0 n1 xs1 cs x y u f n2 xs2 := by
  rcases h with ⟨h1, h2, h⟩ | ⟨h1, h2, h3, h4, h5, h6⟩
  · exact .inl ⟨erase_in h1 hr, erase_in h2 hs, h.erase hp hq⟩
  · exact .inr ⟨fun hm => h1 (in_erase hm), fun hm => h2 (in_erase hm), fun hm => h3 (in_erase hm), h4, h5, fun hm => h6 (not_erase hm hs)⟩
theorem AppZ.erase (h : AppZ B w wr e size rest z p q r s n1 xs1 cs v0 x y u f n2 xs2) {c : Nat} (hz : z ≠ c) (hp : p ≠ c) (hq : q ≠ c) (hr : r ≠ c) (hs : s ≠ c) : AppZ B w wr e size (rest.erase c) z p q r s n1 xs1 cs v0 x y u f n2 xs2 := by
  rcases h with ⟨h0, ⟨h1, h2, h3⟩, h4, h5, h6⟩ | ⟨h0, hv, h⟩
  · exact .inl ⟨erase_in h0 hz, ⟨erase_in h1 hp, erase_in h2 hr, erase_in h3 hs⟩, h4, h5, fun hm => h6 (not_erase hm hq)⟩
  · exact .inr ⟨fun hm => h0 (in_erase hm), hv, h.erase hp hq hr hs⟩
theorem AppZ.done (h : AppZ B w wr e size rest z p q r s n1 xs1 cs v0 x y u f n2 xs2) (hr : r ∉ rest) : z ∉ rest ∧ p ∉ rest ∧ q ∉ rest ∧ Below B w wr ∧ wr.ownsRow B e size u n2 xs2 := by
  rcases h with ⟨_, ⟨_, h2, _⟩, _⟩ | ⟨h0, _, h⟩
  · exact absurd h2 hr
  · rcases h with ⟨h1, _⟩ | ⟨_, h2, h3, h4, h5, _⟩
    · exact absurd h1 hr
    · exact ⟨h0, h2, h3, h4, h5⟩
end
/-- The two appends, then a call that says yes, then its negation. s: the call; t: the negation. -/
def AppC (B : Nat) (w wr : World) (e : TypeId) (size : Nat) (rest : List Nat) (z p q r s t : Nat) (n1 : Nat) (xs1 : List Value) (cs : Array Value) (v0 x y u g h : Value) (n2 : Nat) (xs2 : List Value) : Prop :=
  (s ∈ rest ∧ t ∈ rest ∧ AppZ B w wr e size rest z p q r s n1 xs1 cs v0 x y u undef n2 xs2) ∨ (s ∉ rest ∧ (z ∉ rest ∧ p ∉ rest ∧ q ∉ rest ∧ r ∉ rest) ∧ Below B w wr ∧ g = .bool true ∧ (t ∉ rest → h = .bool false))
section
variable {B : Nat} {w wr w' : World} {e : TypeId} {size : Nat} {rest : List Nat} {z p q r s t : Nat} {v0 : Value} {n1 : Nat} {xs1 : List Value} {cs : Array Value} {x y u g h : Value} {n2 : Nat} {xs2 : List Value}
theorem AppC.bel (hI : AppC B w wr e size rest z p q r s t n1 xs1 cs v0 x y u g h n2 xs2) : Below B w wr := by
  rcases hI with ⟨_, _, h⟩ | ⟨_, _, h, _⟩
  · exact h.bel
  · exact h
theorem AppC.in1 (hI : AppC B w wr e size rest z p q r s t n1 xs1 cs v0 x y u g h n2 xs2) (hm : z ∈ rest ∨ p ∈ rest ∨ q ∈ rest ∨ r ∈ rest ∨ s ∈ rest) : s ∈ rest ∧ t ∈ rest ∧ AppZ B w wr e size rest z p q r s n1 xs1 cs v0 x y u undef n2 xs2 := by
  rcases hI with h | ⟨h0, ⟨h1, h2, h3, h4⟩, _⟩
  · exact h
  · rcases hm with h | h | h | h | h
    · exact absurd h h1
    · exact absurd h h2
    · exact absurd h h3
    · exact absurd h h4
    · exact absurd h h0
theorem AppC.fin (hI : AppC B w wr e size [] z p q r s t n1 xs1 cs v0 x y u g h n2 xs2) : h = .bool false ∧ Below B w wr := by
  rcases hI with ⟨h, _⟩ | ⟨_, _, h1, _, h2⟩
  · cases h
  · exact ⟨h2 (by simp), h1⟩
end
theorem ownsRow_nil {w : World} {base : Nat} {e : TypeId} {size n c : Nat} {o : Option Addr} {xs : List Value} (h : w.ownsRow base e size (.slice o n c) n xs) : (o = none → c = 0) ∧ (∀ a, o = some a → a.spot = none) := by
  rcases h.2 with ⟨h1, _⟩ | ⟨g, cap, _, h1, _⟩
  · cases h1
    refine ⟨?_, ?_⟩
    · intro _; rfl
    · intro a ha; cases ha
  · cases h1
    refine ⟨?_, ?_⟩
    · intro ha; cases ha
    · intro a ha; cases ha; rfl
end Go.Proofs.Ythgkfdhkmkbioaa
