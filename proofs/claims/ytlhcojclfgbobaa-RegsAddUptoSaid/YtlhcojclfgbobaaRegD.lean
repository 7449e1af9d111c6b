/- Contract of size of package regs. -/
import Derived.Test.YtlhcojclfgbobaaRegC
namespace Go.Proofs.Ytlhcojclfgbobaa
open Go.RowKit

def sumL (xs : List (List UInt8)) : Nat := (xs.map List.length).sum
def sizeR (r : RegD) : Nat := r.lines.length + sumL r.lines
theorem sumL_take (xs : List (List UInt8)) (k : Nat) (h : k < xs.length) : sumL (xs.take (k + 1)) = sumL (xs.take k) + xs[k].length := by
  unfold sumL
  rw [List.take_succ_eq_append_getElem h, List.map_append, List.sum_append]
  simp
theorem wrap_add (a b : Int) : wrap64 (wrap64 a + b) = wrap64 (a + b) := by unfold wrap64; omega

set_option maxHeartbeats 1000000 in
set_option maxRecDepth 100000 in
theorem size_any (v : Value) (r : RegD) (w : World) (h : RegAt w v r) (hl : r.lines.length ≤ 8796093021952) :
    Calls Try.prog 41 #[v] w fun e w' => e = .returned (.int .i64 (wrap64 (sizeR r))) ∧ Below w.heap.size w w' := by
  obtain ⟨lv, rfl, a, cap, rfl, hc⟩ := h
  obtain ⟨xs, wh⟩ := r
  simp only at hc hl ⊢
  have A := Lib.hid hc
  clear hc
  have Hs : Hid (sizeR ⟨xs, wh⟩ = xs.length + sumL xs) := Lib.hid rfl
  go_enter Try.func41, Try.ntmps41
  go_wp2
  have hB : Below w.heap.size w (w.alloc (Obj.cells #[Value.slice a xs.length cap, Value.bool wh] 24)) := (Below.refl _ _).alloc (Nat.le_refl _) _
  have A2 : Hid (∀ i (hi : i < xs.length), ∃ b o, a = some ⟨b, o, none⟩ ∧ (w.alloc (Obj.cells #[Value.slice a xs.length cap, Value.bool wh] 24)).cell? ⟨b, o + i, none⟩ = some (strV xs[i])) := Lib.hid (fun i hi => by
    obtain ⟨b, o, e, hc⟩ := A.out i hi
    exact ⟨b, o, e, (false_upd hB).cell hc (fun h => h)⟩)
  clear A
  generalize w.alloc (Obj.cells #[Value.slice a xs.length cap, Value.bool wh] 24) = W at *
  go_loop [3, 5, 12] (fun n s i => ∃ (k : Nat), k ≤ xs.length ∧ i = .int .i64 k ∧ n = .int .i64 (wrap64 ((xs.length + sumL (xs.take k) : Nat) : Int))) (fun n s i => xs.length - (intOf i).toNat)
  case atStart => exact ⟨0, by omega, rfl, by simp [sumL]; unfold wrap64; omega⟩
  case round =>
    obtain ⟨k, hk, rfl, rfl⟩ := hrel
    by_cases hlt : k < xs.length
    · obtain ⟨b, o, rfl, hc⟩ := A2.out k hlt
      have Ht := Lib.hid (sumL_take xs k hlt)
      simp only [strV] at hc
      have hz : (⟨xs[k].toArray⟩ : ByteArray).size = xs[k].length := by simp [ByteArray.size]
      have Hz := Lib.hid hz
      clear hz
      generalize xs[k] = x at *
      have Hn : Hid (xs.length + sumL (xs.take (k + 1)) = (xs.length + sumL (xs.take k)) + x.length) := Lib.hid (by have := Ht.out; omega)
      generalize xs.length + sumL (xs.take k) = t at *
      go_wp2
      go_round
      case rel => exact ⟨k + 1, by omega, by go_num, by rw [Hn.out, wrap_add]; simp⟩
      case measure => simp [intOf]; omega
    · obtain rfl : k = xs.length := by omega
      rw [List.take_length]
      go_wp2
      go_ret
      exact ⟨by rw [Hs.out]; rfl, hB⟩
end Go.Proofs.Ytlhcojclfgbobaa
