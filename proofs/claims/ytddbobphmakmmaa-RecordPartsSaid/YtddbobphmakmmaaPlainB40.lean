/- Chapter 40 in plain Lean: seeds and beginnings. No statement about the program. -/
import Derived.Test.YtddbobphmakmmaaPlain40
namespace Go.Proofs.Ytddbobphmakmmaa

theorem right_of_chk {seed : Nat} {l : List Rd} (h : chk seed l = -1) {i : Nat} (hi : i < l.length) : rightAt seed l i = true := by
  rcases chk_is seed l with ⟨_, h1⟩ | ⟨k, _, e, _⟩
  · exact h1 i hi
  · rw [h] at e; omega

theorem chk_seed {seed other : Nat} {l : List Rd} (hs : seed < 18446744073709551616) (ho : other < 18446744073709551616) (h : chk seed l = -1) (hl : 0 < l.length) (hne : seed ≠ other) : chk other l = 0 := by
  refine (isChk_eq (.inr ⟨0, hl, rfl, ?_, fun i hi => absurd hi (by omega)⟩)).symm
  have hr := right_of_chk h hl
  cases hq : rightAt other l 0 with
  | false => rfl
  | true =>
    exfalso
    have e : l[0]? = some l[0] := List.getElem?_eq_getElem hl
    simp only [rightAt, e, Bool.and_eq_true, decide_eq_true_eq] at hr hq
    exact hne (link_inj hs ho (hr.2.symm.trans hq.2))

end Go.Proofs.Ytddbobphmakmmaa
