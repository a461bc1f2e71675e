/- Slices of bytes that came in, opened; a slice's room. No statement about the program. -/
import Derived.Test.YthgkfdhkmkbioaaOr21
import Derived.Test.YthgkfdhkmkbioaaBr21
namespace Go.Proofs.Ythgkfdhkmkbioaa
open Go.ChangeShapes Go.WideShapes Go.ChangeAt Go.RowKit Go.Deep Go.Joins
set_option maxRecDepth 100000
section
variable {H : Type} {enc : TypeId × Value → H} {P : Program} {w : World}
/-- A slice is no longer than its room. -/
theorem slcap_of {t e : TypeId} {n : Nat} {o : Option Addr} {len cap : Nat} {y : DataW H × List MemPlace} (ht : P.underlying t = some (.slice e)) (h : DataW.trod enc P w 0 (fun _ => true) true n t [.slice o len cap] = some y) : len ≤ cap := by
  rcases open_slice ht h with ⟨h0, _⟩ | ⟨a, len', cap', m', k, D, Pl, hcs, _, hl, _⟩
  · simp only [List.cons.injEq, and_true, Value.slice.injEq] at h0
    omega
  · simp only [List.cons.injEq, and_true, Value.slice.injEq] at hcs
    obtain ⟨_, rfl, rfl⟩ := hcs
    exact hl
end
section
variable {H : Type} {enc : TypeId × Value → H} {w : World}
theorem cBy : Try.prog.cellsOf 5 = 1 := by kernel_rfl
theorem bytesP_of {r : _root_.Go.Reach} {b0 : Nat} {v : Value} {d : DataW H} {q : List MemPlace} (hv : Value.okWide Try.prog w r b0 43 v) (h : DataW.Trod enc Try.prog w 0 (fun _ => true) true 43 v d q) : ∃ (o : Option Addr) (cap : Nat) (l : List Nat), v = .slice o l.length cap ∧ l.length ≤ 9223372036854775807 ∧ U8s w o l := by
  obtain ⟨a', len', cap', rfl⟩ := okWide_slice Try.underlying43 hv
  obtain ⟨n, hn⟩ := h
  obtain ⟨o, cap, l, h1, h2, h3⟩ := sl_of (m := 1) (v := .slice a' len' cap') (fun g (x : Nat) => g 0 = some (.int .u8 (x : Nat)) ∧ x < 256) 0 Try.underlying43 (by kernel_rfl) (by decide)
    (fun g g' x hg ⟨a0, a1⟩ => ⟨(hg 0 (by decide)) ▸ a0, a1⟩) (fun cs k z hl hz => by
      match cs, hl with
      | [c], _ =>
        obtain ⟨x, rfl, hw⟩ := fld_int (c := c) Try.underlying5 hz
        have hb := bounds_u8 hw
        obtain ⟨k, rfl⟩ : ∃ k : Nat, x = k := ⟨x.toNat, by omega⟩
        exact ⟨k, rfl, by omega⟩) hn
  exact ⟨o, cap, l, h1, h2, fun i hi => by obtain ⟨b, off, ho, c0, c1⟩ := h3 i hi; exact ⟨b, off, ho, by simpa using c0, c1⟩⟩
theorem intcP_of {r : _root_.Go.Reach} {b0 : Nat} {v : Value} {d : DataW H} {q : List MemPlace} (hv : Value.okWide Try.prog w r b0 23 v) (h : DataW.Trod enc Try.prog w 0 (fun _ => true) true 23 v d q) : ∃ (o : Option Addr) (cap : Nat) (l : List Int), v = .slice o l.length cap ∧ l.length ≤ 9223372036854775807 ∧ Ints w o l ∧ l.length ≤ cap := by
  obtain ⟨o, cap, l, rfl, h1, h2⟩ := intP_of hv h
  obtain ⟨n, hn⟩ := h
  exact ⟨o, cap, l, rfl, h1, h2, slcap_of Try.underlying23 hn⟩
theorem brokenTop (J : List Jb) (oj : Option Addr) (cj : Nat) (S : List Int) (os : Option Addr) (cs : Nat) (a : Int) (l : List Nat) (ol : Option Addr) (cl : Nat) (w : World) (hj : JobsM w oj J) (hbj : J.length ≤ 9223372036854775807) (hs : Ints w os S) (hbs : S.length ≤ 9223372036854775807) (hcs : S.length ≤ cs) (ha0 : 0 ≤ a) (ha1 : a ≤ 255) (hl : U8s w ol l) (hbl : l.length ≤ 9223372036854775807) :
    Calls Try.prog 5 #[.slice oj J.length cj, .slice os S.length cs, .int .u8 a, .slice ol l.length cl] w (Ret (.bool true) w) := by
  obtain ⟨n, rfl⟩ : ∃ n : Nat, a = n := ⟨a.toNat, by omega⟩
  exact broken_any w J S n l oj os ol cj cs cl hj hs hl (by omega) hcs hbj hbs hbl
end
end Go.Proofs.Ythgkfdhkmkbioaa
