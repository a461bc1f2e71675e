/- Chapter 26 in plain Lean: all offsets greater by a day. No statement about the program. -/
import Derived.Test.YtgjnekfmnepjeaaPlainB26
namespace Go.Proofs.Ytgjnekfmnepjeaa

def mv (cs : List (Int × Int)) : List (Int × Int) := cs.map fun x => (x.1, x.2 + 1440)
theorem mv_length (cs : List (Int × Int)) : (mv cs).length = cs.length := by simp [mv]
theorem mv_take {cs : List (Int × Int)} {k : Nat} (h : k < cs.length) : mv (cs.take (k + 1)) = mv (cs.take k) ++ [((cs.getD k (0, 0)).1, (cs.getD k (0, 0)).2 + 1440)] := by
  have e : cs.getD k (0, 0) = cs[k] := by simp [h]
  unfold mv
  rw [List.take_succ_eq_append_getElem h, List.map_append, e]
  rfl
theorem offAt_mv (m : Int) : ∀ (cs : List (Int × Int)) (o : Int), offAt m (o + 1440) (mv cs) = offAt m o cs + 1440
  | [], _ => rfl
  | x :: cs, o => by
    show offAt m (o + 1440) ((x.1, x.2 + 1440) :: mv cs) = _
    unfold offAt
    split
    · exact offAt_mv m cs x.2
    · exact offAt_mv m cs o
end Go.Proofs.Ytgjnekfmnepjeaa
