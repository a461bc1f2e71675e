/- Chapter 37, plain: one bit of a small mask. No program here. -/
import Derived.Test.YtmcodendnpjlaaaDoorPlainH37
namespace Go.Proofs.YtmcodendnpjlaaaDoor
open Go.RowKit

structure BitF (used t S : Nat) : Prop where
  eq : 1 <<< t = S
  lt : S < 256
  pos : 0 < S
  shl : wrap64 ((2 : Int) ^ t) = (S : Int)
  shl2 : IntKind.i64.wrap ((2 : Int) ^ t) = (S : Int)
  tt : used.testBit t = true → bits .and .i64 (used : Int) (S : Int) = (S : Int)
  ff : used.testBit t = false → bits .and .i64 (used : Int) (S : Int) = 0
  or : bits .or .i64 (used : Int) (S : Int) = ((used ||| S : Nat) : Int)
  orl : used ||| S < 256
  ne : ((S : Int) == 0) = false
  ne2 : ((S : Int) != 0) = true
theorem bitF {used t : Nat} (hu : used < 256) (ht : t < 8) : ∃ S, BitF used t S := by
  have hsl := shl_lt (j := t) ht
  have hab := and_bit used t
  have hor := or_lt hu ht
  have e0 : ((2 : Int) ^ t) = ((1 <<< t : Nat) : Int) := by rw [Nat.one_shiftLeft]; push_cast; rfl
  refine ⟨1 <<< t, rfl, hsl.1, hsl.2, ?_, ?_, ?_, ?_, ?_, hor, ?_, ?_⟩
  · rw [e0]
    generalize 1 <<< t = S at hsl
    have h1 : (S : Int) < 4294967296 := by omega
    have h2 : (0 : Int) ≤ (S : Int) := by omega
    unfold wrap64
    omega
  · rw [e0]
    generalize 1 <<< t = S at hsl
    exact IntWalk.i64_in (S : Int) (by omega)
  · intro hb
    rw [i64_and_nat used _ (by omega) (by generalize 1 <<< t = S at hsl; omega), hab, hb]
    rfl
  · intro hb
    rw [i64_and_nat used _ (by omega) (by generalize 1 <<< t = S at hsl; omega), hab, hb]
    rfl
  · exact i64_or_nat used _ (by omega) (by generalize 1 <<< t = S at hsl; omega)
  · generalize 1 <<< t = S at hsl
    rw [beq_eq_false_iff_ne]; omega
  · generalize 1 <<< t = S at hsl
    simp; omega
end Go.Proofs.YtmcodendnpjlaaaDoor
