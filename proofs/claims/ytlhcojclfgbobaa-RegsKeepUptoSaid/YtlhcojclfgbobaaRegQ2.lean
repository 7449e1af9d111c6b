/- RegsKeep, as its row calls it. -/
import Derived.Test.YtlhcojclfgbobaaRegQ
import Derived.Test.YtlhcojclfgbobaaRegRu
namespace Go.Proofs.Ytlhcojclfgbobaa
open Go.RowKit

theorem opsSum_mem {ts : List OpD} {t : OpD} (h : t ∈ ts) : sizeR t.x ≤ opsSum ts := by
  unfold opsSum
  induction ts with
  | nil => cases h
  | cons s ts ih =>
    simp only [List.map_cons, List.sum_cons]
    cases List.mem_cons.1 h with
    | inl e => subst e; omega
    | inr e => have := ih e; omega
theorem cs_two {cs : Array Value} {u v : Value} (h : cs.toList = [u, v]) : cs = #[u, v] := by cases cs; simp_all

theorem keep_law2 {w : World} (a : Option Addr) (cp : Nat) (ts : List OpD) (h : OpsAt w a ts ∧ opsIn ts) (hb : opsSum ts ≤ 1048576) (nm : Int) (n0 : 0 ≤ nm) (n1 : nm ≤ 255) (cs : Array Value) (x : RegD)
    (hx : ∃ v, cs.toList = [v, .bool x.whole] ∧ StrsAt w v x.lines ∧ strsIn x.lines) (hxb : sizeR x ≤ 1048576) :
    Calls Try.prog 4 #[.slice a ts.length cp, .int .u8 nm, .agg cs] w fun e w' => e = .returned (.bool true) ∧ Below w.heap.size w w' := by
  obtain ⟨v, e, hs, hi⟩ := hx
  rw [cs_two e]
  exact keep_law a cp ts nm n0 n1 _ x w h.1 h.2.1 (fun t ht => (h.2.2 t ht).1.1) (fun t ht y hy => Nat.le_trans ((h.2.2 t ht).1.2 y hy) (by decide)) (fun t ht => (h.2.2 t ht).2.1) (fun t ht => by have := opsSum_mem ht; omega)
    ⟨v, rfl, hs⟩ hi.1 (fun y hy => Nat.le_trans (hi.2 y hy) (by decide)) (by omega)
end Go.Proofs.Ytlhcojclfgbobaa
