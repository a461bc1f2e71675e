/- Chapter 37, plain: what Cost computes, pair by pair. No program here. -/
import Derived.Test.YtmcodendnpjlaaaDoorWa37
import Derived.Test.YtmcodendnpjlaaaDoorWb37
namespace Go.Proofs.YtmcodendnpjlaaaDoor

def costF (E X : List Ps) : Int → List Bool → Int → List (Int × Int) → Option Int
  | _, _, c, [] => some c
  | b, u, c, p :: l => if p.1 ≤ b then none else if (E.length : Int) ≤ p.1 then none else if p.2 < 0 then none else if (X.length : Int) ≤ p.2 then none else if u.getD p.2.toNat false = true then none
    else if (X.getD p.2.toNat Ps.zero).mn ≤ (E.getD p.1.toNat Ps.zero).mn then none else costF E X p.1 (u.set p.2.toNat true) (c + (dP (E.getD p.1.toNat Ps.zero) (X.getD p.2.toNat Ps.zero) - 10)) l
section
variable {E X : List Ps} {b c : Int} {u : List Bool} {l : List (Int × Int)}
theorem costF_n1 {p : Int × Int} (h : p.1 ≤ b) : costF E X b u c (p :: l) = none := by simp [costF, h]
theorem costF_n2 {p : Int × Int} (h : (E.length : Int) ≤ p.1) : costF E X b u c (p :: l) = none := by simp [costF, h]
theorem costF_n3 {p : Int × Int} (h : p.2 < 0) : costF E X b u c (p :: l) = none := by simp [costF, h]
theorem costF_n4 {p : Int × Int} (h : (X.length : Int) ≤ p.2) : costF E X b u c (p :: l) = none := by simp [costF, h]
theorem costF_n5 {i : Int} {j : Nat} (h : u.getD j false = true) : costF E X b u c ((i, (j : Int)) :: l) = none := by
  show (if _ then _ else _) = _
  simp only [Int.toNat_natCast, h]
  repeat' split
  all_goals first | rfl | contradiction
theorem costF_n6 {i j : Nat} (h : (X.getD j Ps.zero).mn ≤ (E.getD i Ps.zero).mn) : costF E X b u c (((i : Int), (j : Int)) :: l) = none := by
  show (if _ then _ else _) = _
  simp only [Int.toNat_natCast]
  repeat' split
  all_goals first | rfl | contradiction
theorem costF_ok {i j : Nat} (h1 : b < (i : Int)) (h2 : i < E.length) (h4 : j < X.length) (h5 : u.getD j false = false) (h6 : (E.getD i Ps.zero).mn < (X.getD j Ps.zero).mn) :
    costF E X b u c (((i : Int), (j : Int)) :: l) = costF E X i (u.set j true) (c + (dP (E.getD i Ps.zero) (X.getD j Ps.zero) - 10)) l := by
  show (if _ then _ else _) = _
  simp only [Int.toNat_natCast]
  rw [if_neg (by omega), if_neg (by omega), if_neg (by omega), if_neg (by omega), if_neg (by rw [h5]; simp), if_neg (by omega)]
end
end Go.Proofs.YtmcodendnpjlaaaDoor
