/- A way to stop a walk at an operation. No statement about the program. -/
import Derived.Test.YtmcodendnpjlaaaDoorKit
namespace Go.Proofs.YtmcodendnpjlaaaDoor
open Go.RowKit

def Held (p : Prop) : Prop := p
section
variable {P : Program} {ops : Array Oper} {rest : List Oper} {o : Oper} {act : Act} {w : World} {Q : Exit → Act → World → Prop}
/-- Stop at a store into a map. -/
theorem hold_mapUpdate {t : TypeId} {m x u : Operand} (_ : o.op = Op.mapUpdate t m x u) (h : Held (wpList P ops Q (o :: rest) act w)) : wpList P ops Q (o :: rest) act w := h
theorem hold_append {s x : Operand} {ts : Array TypeId} (_ : o.op = .call { callee := .builtin .append, args := #[s, x], argTypes := ts }) (h : Held (wpList P ops Q (o :: rest) act w)) : wpList P ops Q (o :: rest) act w := h
theorem hold_call {f : Operand} {as' : Array Operand} {ts : Array TypeId} (_ : o.op = .call { callee := .value f, args := as', argTypes := ts }) (h : Held (wpList P ops Q (o :: rest) act w)) : wpList P ops Q (o :: rest) act w := h
theorem unheld {p : Prop} (h : p) : Held p := h
end
end Go.Proofs.YtmcodendnpjlaaaDoor
