/- Chapter 37: the closure's contract; slices.Clone. -/
import Derived.Test.YtmcodendnpjlaaaDoorWh37
import Derived.Laws.Cover3
namespace Go.Proofs.YtmcodendnpjlaaaDoor
open Go.RowKit
attribute [local go_sem] Oper.semAt_some

theorem least_any {KB AB XB FB MB : Nat} {oe ox : Option Addr} {ce cx : Nat} {E X : List Ps} (hE : E.length ≤ 8) (hX : X.length ≤ 8) : ∀ k, k ≤ E.length → LCon KB AB XB FB MB oe ox ce cx E X k
  | 0, h => least_step hE hX 0 h (fun k' hk' => absurd hk' (by omega))
  | k + 1, h => least_step hE hX (k + 1) h (fun k' hk' => by
      obtain rfl : k = k' := by omega
      exact least_any hE hX k (by omega))

theorem run_nilS (a : Option Addr) (l c : Nat) (w : World) : (binOp .eql 23 (.slice a l c) (.slice none 0 0)).run Tryd.prog w = .ok (.bool a.isNone) w := by
  simp only [binOp]
  simp [run_equal_slice_nil _ 23 48 a l c Tryd.underlying23]
def COut (l : List (Int × Int)) (w : World) (e : Ending) (w' : World) : Prop :=
  ∃ o' cap', e = .returned (.slice o' l.length cap') ∧ Twos w' o' l ∧ Below w.heap.size w w'
set_option maxRecDepth 100000 in
set_option maxHeartbeats 8000000 in
theorem Clone_any (o : Option Addr) (cap : Nat) (l : List (Int × Int)) (w : World) (ht : Twos w o l) (hl : l.length ≤ 1000) : Calls Tryd.prog 29 #[.slice o l.length cap] w (COut l w) := by
  have HT := Lib.hid ht
  clear ht
  have hnil := run_nilS
  cases o with
  | none =>
    obtain rfl : l = [] := by
      cases l with
      | nil => rfl
      | cons p l => obtain ⟨_, _, h, _⟩ := HT.out 0 (by simp); cases h
    go_enter Tryd.func29, Tryd.ntmps29
    go_wp2
    go_ret
    exact ⟨none, 0, rfl, Twos.nil, Below.refl _ _⟩
  | some ad =>
    go_enter Tryd.func29, Tryd.ntmps29
    have HR0 := Lib.hid (show Row w (w.alloc (.cells #[] 48)) 48 2 (.slice (some ⟨w.heap.size, 0, none⟩) 0 0) 0 [] from Row.lit (Below.refl _ _) #[] 0 (by decide) rfl)
    have HLEN := Lib.hid (flatT_len l)
    have HCL := Lib.hid (HT.out.cells.later (below_alloc (Below.refl w.heap.size _) (.cells #[] 48)))
    go_wp2_with (with_reducible refine hold_append rfl ?_)
    refine unheld ?_
    refine wp_appendS elemP HR0.out (by omega) (by decide) HLEN.out (flatT_one _) HCL.out rfl (.tmp 5) (.tmp 6) rfl rfl (c := cap) (by rfl) ?_
    intro v' w6 hrow
    have hrow2 := hrow.cast (Nat.zero_add _) (List.nil_append _)
    obtain ⟨oP, cP, rfl, _⟩ := hrow2.shape
    have HO := Lib.hid (show Twos w6 oP l ∧ Below w.heap.size w w6 from ⟨Row.twos hrow2 rfl, hrow.below⟩)
    clear hrow hrow2 HCL HR0 HLEN HT
    go_wp2
    go_ret
    exact ⟨oP, cP, rfl, HO.out.1, HO.out.2⟩
end Go.Proofs.YtmcodendnpjlaaaDoor
