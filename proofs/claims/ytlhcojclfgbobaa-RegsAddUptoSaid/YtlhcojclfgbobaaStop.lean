/- An arm that is taken at operations of one kind alone. -/
import Derived.Test.YtlhcojclfgbobaaPlain
import Derived.Test.YtlhcojclfgbobaaProg
import Derived.Laws.Rows
import Derived.Deep.RegionWith
import Derived.OwnWalk
namespace Go.Proofs.Ytlhcojclfgbobaa
open Go.RowKit
def Stop (p : Prop) : Prop := p
section
variable {P : Program} {ops : Array Oper} {rest : List Oper} {o : Oper} {a : Act} {w : World} {Q : Exit → Act → World → Prop}
theorem stopFA (ty : TypeId) (x : Operand) (y) (ho : o.op = .fieldAddr ty x y) (h : Stop (wpList P ops Q (o :: rest) a w)) : wpList P ops Q (o :: rest) a w := h
theorem stopB (ty : TypeId) (x) (ho : o.op = .build ty x) (h : Stop (wpList P ops Q (o :: rest) a w)) : wpList P ops Q (o :: rest) a w := h
theorem stopSt (ty : TypeId) (x y : Operand) (ho : o.op = .store ty x y) (h : Stop (wpList P ops Q (o :: rest) a w)) : wpList P ops Q (o :: rest) a w := h
theorem stopLd (ty : TypeId) (x : Operand) (ho : o.op = .load ty x) (h : Stop (wpList P ops Q (o :: rest) a w)) : wpList P ops Q (o :: rest) a w := h
theorem stopSl (ty : TypeId) (x : Operand) (l h2 m) (ho : o.op = .slice ty x l h2 m) (h : Stop (wpList P ops Q (o :: rest) a w)) : wpList P ops Q (o :: rest) a w := h
theorem stopBS (ty : TypeId) (x) (y) (ho : o.op = .buildSlice ty x y) (h : Stop (wpList P ops Q (o :: rest) a w)) : wpList P ops Q (o :: rest) a w := h
end
end Go.Proofs.Ytlhcojclfgbobaa
