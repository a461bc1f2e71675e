/- Loops over iterators: a region that draws its order, in a round of such a loop. No statement about the program. -/
import Derived.Test.YtehpdjlidmhkmaaKitB
import Derived.RangeFuncNested
import Derived.RangeFuncBound
import Derived.RangeFuncCalls
import Derived.RangeFuncLeaves
import Derived.RangeFuncBox
import Derived.Shelf.Abstract
import Derived.OwnWalkIn
import Derived.TacticsInMore
import Derived.LoopNIn
import Derived.LoopIn
namespace Go.Proofs.Ytehpdjlidmhkmaa
open Go.RowKit

def noDefer (ops : Array Oper) : Bool := ops.toList.all fun o => match o.op with | .defer _ => false | _ => true

theorem noDefer_spec {ops : Array Oper} (h : noDefer ops = true) {i : Nat} {o : Oper} (ho : ops[i]? = some o) : ∀ c, o.op ≠ .defer c := by
  intro c e
  unfold noDefer at h
  rw [List.all_eq_true] at h
  have := h o (by have := Array.mem_of_getElem? ho; simpa using this)
  rw [e] at this
  cases this

section
variable {P : Program} {ops : Array Oper} {Q : Exit → Act → World → Prop} {lp n : Nat}

theorem wpOpsIn_of (hnd : noDefer ops = true) (hLO : ¬ LetsOut Q) : ∀ (idx : List Nat) (a : Act) (w : World), wpOps P ops Q idx a w → wpOpsIn (Fence.wide.inRound lp) n P ops Q idx a w := by
  intro idx
  induction idx with
  | nil => exact fun _ _ h => h
  | cons i rest ih =>
    intro a w h
    unfold wpOps at h
    unfold wpOpsIn
    cases ho : ops[i]? with
    | none =>
      simp only [ho] at h ⊢
      exact ih a w h
    | some o =>
      simp only [ho] at h ⊢
      by_cases hw : Region.wanted o (yielded ops a.tmps) = true
      · rw [if_pos hw] at h ⊢
        rcases h with h | ⟨_, h⟩
        · refine ⟨fun _ _ => trivial, ?_⟩
          have es : o.semAt (Fence.wide.inRound lp).round a.eval = execOp a.eval o := Oper.semAt_some lp a.eval o (noDefer_spec hnd ho)
          rw [es]
          unfold Oper.wp at h
          generalize (execOp a.eval o).run P w = r at h ⊢
          cases r with
          | halt x w' => cases x <;> first | exact h | exact h.elim
          | ok nx w' =>
            cases nx <;> simp only [Oper.upon] at h <;> simp only [Oper.uponIn]
            case value v => exact ih _ _ h
            case skip => exact ih _ _ h
            case defer d => exact ih _ _ h
            case enter f args =>
              refine ⟨fun hd => by simp [Fence.wide] at hd, ?_⟩
              refine CallsIn.inRound lp (callsIn_wide.2 (h.mono fun e w'' he => ?_))
              cases e with
              | returned v => exact ih _ _ he
              | panicked c => exact he
              | outgrown => exact he
            case row rw args =>
              refine ⟨fun hd => by simp [Fence.wide] at hd, ?_⟩
              exact fun c cs _ => let ⟨v, w', r, s⟩ := (h.mono fun v w'' he => ih _ _ he) c cs; ⟨v, w', r, stepsIn_wide.2 s⟩
            all_goals exact h.elim
        · exact absurd h hLO
      · rw [if_neg hw] at h ⊢
        exact ⟨fun _ _ => trivial, ih _ _ h⟩

/-- A call met by a plain contract, in the wide fence, outside and inside a round. -/
theorem inCall {f : FuncId} {args : Array Value} {w : World} {R R' : Ending → World → Prop} (h : Calls P f args w R') (hr : ∀ e w', R' e w' → R e w') : Fence.wide.fn f ∧ (Fence.wide.depth.isSome = true → 1 ≤ n) ∧ CallsIn Fence.wide (n - 1) P f args w R :=
  ⟨trivial, fun hd => by simp [Fence.wide] at hd, callsIn_wide.2 (h.mono hr)⟩
theorem inCallR {f : FuncId} {args : Array Value} {w : World} {R R' : Ending → World → Prop} (h : Calls P f args w R') (hr : ∀ e w', R' e w' → R e w') : Fence.wide.fn f ∧ (Fence.wide.depth.isSome = true → 1 ≤ n) ∧ CallsIn (Fence.wide.inRound lp) (n - 1) P f args w R :=
  ⟨trivial, fun hd => by simp [Fence.wide] at hd, CallsIn.inRound lp (callsIn_wide.2 (h.mono hr))⟩

/-- THE RULE of XKitB, in a round of a loop over an iterator. -/
theorem wpIn_region_B {l : List Oper} {id : Nat} {a : Act} {w : World} (m : Nat) (J : World → Prop) (hm : P.follows .mixedOrders = true) (hB : orderOk l.toArray m = true) (hnd : noDefer l.toArray = true) (hLO : ¬ LetsOut Q)
    (hJ : ∀ w w', J w → Below w.heap.size w w' → J w') (h0 : J w.drew) (h' : ∀ R : Act → Prop, (∀ A, (∀ w', J w' → wpList P l.toArray Q (l.drop m) A w') → R A) → wpB P l.toArray J R (l.take m) a) : (Code.region id l.toArray true).wpIn (Fence.wide.inRound lp) n P Q a w :=
  wpIn_region_draw fun t => by
    simp only [Region.schedule, hm, Bool.true_or, if_true]
    exact wpOpsIn_of hnd hLO _ _ _ (wpAny_sound l.toArray.size t _ a _ (wpAny_B m J hB hJ h0 h'))
end
end Go.Proofs.Ytehpdjlidmhkmaa
