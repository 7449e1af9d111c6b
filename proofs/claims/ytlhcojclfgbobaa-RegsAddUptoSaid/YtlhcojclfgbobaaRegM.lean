/- Contract of heavy of emendatorlaw11: more than is looked at (the sum as an int wraps). -/
import Derived.Test.YtlhcojclfgbobaaRegD
namespace Go.Proofs.Ytlhcojclfgbobaa
open Go.RowKit

/-- A call. -/
structure OpD where
  kind : Int
  name : Int
  x : RegD

/-- Calls in memory. -/
def OpsAt (w : World) (a : Option Addr) (ts : List OpD) : Prop :=
  ∀ i (h : i < ts.length), ∃ b o lv, a = some ⟨b, o, none⟩ ∧ w.cell? ⟨b, o + i * 4, none⟩ = some (.int .u8 ts[i].kind) ∧ w.cell? ⟨b, o + i * 4 + 1, none⟩ = some (.int .u8 ts[i].name) ∧
    w.cell? ⟨b, o + i * 4 + 2, none⟩ = some lv ∧ w.cell? ⟨b, o + i * 4 + 3, none⟩ = some (.bool ts[i].x.whole) ∧ StrsAt w lv ts[i].x.lines

def opsSum (ts : List OpD) : Nat := (ts.map fun t => sizeR t.x).sum
def heavyO (ts : List OpD) : Bool := decide ((100 : Int) < ts.length) || decide ((60000 : Int) < wrap64 (opsSum ts))
theorem opsSum_take (ts : List OpD) (k : Nat) (h : k < ts.length) : opsSum (ts.take (k + 1)) = opsSum (ts.take k) + sizeR ts[k].x := by
  unfold opsSum
  rw [List.take_succ_eq_append_getElem h, List.map_append, List.sum_append]
  simp

set_option maxHeartbeats 1000000 in
set_option maxRecDepth 100000 in
theorem heavy_any (a : Option Addr) (cp : Nat) (ts : List OpD) (w : World) (ht : OpsAt w a ts) (hn : ts.length ≤ 8796093021952) (hl : ∀ t ∈ ts, t.x.lines.length ≤ 8796093021952) (hy : ∀ t ∈ ts, ∀ y ∈ t.x.lines, y.length ≤ 1000000000000000) :
    Calls Try.prog 9 #[.slice a ts.length cp] w fun e w' => e = .returned (.bool (heavyO ts)) ∧ w = w' := by
  have HT := Lib.hid ht
  clear ht
  go_enter Try.func9, Try.ntmps9
  go_wp2
  go_loop [3, 4, 5] (fun m i k => ∃ (j : Nat), j ≤ ts.length ∧ i = .int .i64 j ∧ m = .int .i64 (wrap64 (opsSum (ts.take j) : Nat))) (fun m i k => ts.length - (intOf i).toNat)
  case atStart => exact ⟨0, by omega, rfl, by simp [opsSum, wrap64]⟩
  case round =>
    obtain ⟨j, hj, rfl, rfl⟩ := hrel
    by_cases hlt : j < ts.length
    · obtain ⟨b, o, lv, rfl, _, _, e2, _, hst⟩ := HT.out j hlt
      have Hs := Lib.hid (opsSum_take ts j hlt)
      have hlj := hl ts[j] (List.getElem_mem hlt)
      have hyj := hy ts[j] (List.getElem_mem hlt)
      generalize ts[j].x = x at *
      obtain ⟨xs, wh⟩ := x
      simp only at hst hlj hyj
      have HY := Lib.hid hyj
      clear hyj
      obtain ⟨xa, xc, rfl, hc⟩ := hst
      have HC := Lib.hid hc
      clear hc
      generalize opsSum (ts.take j) = t0 at *
      go_wp2
      go_loop [3, 5] (fun m k => ∃ (q : Nat), q ≤ xs.length ∧ k = .int .i64 q ∧ m = .int .i64 (wrap64 ((t0 + (q + sumL (xs.take q)) : Nat) : Int))) (fun m k => xs.length - (intOf k).toNat)
      case atStart => exact ⟨0, by omega, rfl, by simp [sumL]⟩
      case round =>
        obtain ⟨q, hq, rfl, rfl⟩ := hrel
        by_cases hlt2 : q < xs.length
        · obtain ⟨b2, o2, rfl, hcell⟩ := HC.out q hlt2
          have Hq : Hid (t0 + (q + 1 + sumL (xs.take (q + 1))) = t0 + (q + sumL (xs.take q)) + (xs[q].length + 1)) := Lib.hid (by have := sumL_take xs q hlt2; omega)
          simp only [strV] at hcell
          have hlen : xs[q].length ≤ 1000000000000000 := HY.out _ (List.getElem_mem hlt2)
          generalize xs[q] = y at *
          generalize t0 + (q + sumL (xs.take q)) = t1 at *
          go_wp2
          go_round
          case rel => exact ⟨q + 1, by omega, by go_num, by rw [Hq.out, wrap_add]; simp⟩
          case measure => simp [intOf]; omega
        · obtain rfl : q = xs.length := by omega
          go_wp2
          refine ⟨⟨j + 1, by omega, by go_num, ?_⟩, by simp [intOf]; omega⟩
          rw [List.take_length, Hs.out]
          rfl
    · obtain rfl : j = ts.length := by omega
      rw [List.take_length]
      go_wp2
      all_goals go_ret
      all_goals exact ⟨ret_bool (by first | rfl | (simp only [heavyO]; simp_all)), rfl⟩
end Go.Proofs.Ytlhcojclfgbobaa
