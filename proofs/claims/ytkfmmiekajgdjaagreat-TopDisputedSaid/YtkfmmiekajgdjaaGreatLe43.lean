/- TopDisputed at arguments as they are read. -/
import Derived.Test.YtkfmmiekajgdjaaGreatLd43
import Derived.Test.YtkfmmiekajgdjaaGreatRowC43
namespace Go.Proofs.YtkfmmiekajgdjaaGreat
open Go.RowKit

theorem topDisputed_row (c : ClA) (i which q y : Int) (w : World) (hc : ClIn w c) (i0 : 0 ≤ i) (i1 : i < 256) (w0 : 0 ≤ which) (w1 : which < 256) (q0 : 0 ≤ q) (q1 : q < 256) (y0 : 0 ≤ y) (y1 : y < 256) : Calls Tryz.prog 4 #[.agg (clL c).toArray, .int .u8 i, .int .u8 which, .int .u8 q, .int .u8 y] w (Ret (.bool true) w) := by
  obtain ⟨a, rfl⟩ : ∃ s : Nat, i = s := ⟨i.toNat, by omega⟩
  obtain ⟨b, rfl⟩ : ∃ s : Nat, which = s := ⟨which.toNat, by omega⟩
  obtain ⟨d, rfl⟩ : ∃ s : Nat, q = s := ⟨q.toNat, by omega⟩
  obtain ⟨e, rfl⟩ : ∃ s : Nat, y = s := ⟨y.toNat, by omega⟩
  exact topDisputed_any w c a b d e hc.seed hc.arts hc.chg hc.hol hc.rds hc.sls hc.lns (by omega) (by omega) (by omega) (by omega)
end Go.Proofs.YtkfmmiekajgdjaaGreat
