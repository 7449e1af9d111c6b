/- RegsAdd, as its row calls it. -/
import Derived.Test.YtlhcojclfgbobaaRegS
import Derived.Test.YtlhcojclfgbobaaRegRu
namespace Go.Proofs.Ytlhcojclfgbobaa
open Go.RowKit
theorem cs_two' {cs : Array Value} {u v : Value} (h : cs.toList = [u, v]) : cs = #[u, v] := by cases cs; simp_all

theorem add_law2 {w : World} (nm : Int) (n0 : 0 ≤ nm) (n1 : nm ≤ 255) (cs : Array Value) (x : RegD) (hx : ∃ v, cs.toList = [v, .bool x.whole] ∧ StrsAt w v x.lines ∧ strsIn x.lines) (hxb : sizeR x ≤ 1048576)
    (ds : Array Value) (y : RegD) (hy : ∃ v, ds.toList = [v, .bool y.whole] ∧ StrsAt w v y.lines ∧ strsIn y.lines) (hyb : sizeR y ≤ 1048576) :
    Calls Try.prog 3 #[.int .u8 nm, .agg cs, .agg ds] w fun e w' => e = .returned (.bool true) ∧ Below w.heap.size w w' := by
  obtain ⟨v, e, hs, hi⟩ := hx
  obtain ⟨u, e2, hs2, hi2⟩ := hy
  rw [cs_two' e, cs_two' e2]
  exact add_law nm n0 n1 _ _ x y w ⟨v, rfl, hs⟩ ⟨u, rfl, hs2⟩ hi.1 (fun y hy => Nat.le_trans (hi.2 y hy) (by decide)) (by omega) hi2.1 (fun y hy => Nat.le_trans (hi2.2 y hy) (by decide)) (by omega)
end Go.Proofs.Ytlhcojclfgbobaa
