/- TopRecorded at arguments as they are read. -/
import Derived.Test.YtkfmmiekajgdjaaGreatLr43
import Derived.Test.YtkfmmiekajgdjaaGreatRowR43
namespace Go.Proofs.YtkfmmiekajgdjaaGreat
open Go.RowKit

theorem topRecorded_row (c : ClA) (r : Rc) (k : K4) (w : World) (hc : ClIn w c) : Calls Tryz.prog 5 #[.agg (clL c).toArray, recV r, keyV k] w (Ret (.bool true) w) :=
  topRecorded_any w c r k hc.seed hc.arts hc.chg hc.hol hc.rds hc.sls hc.lns
end Go.Proofs.YtkfmmiekajgdjaaGreat
