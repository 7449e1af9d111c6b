/- Contracts of slices.Clone, clone, size. -/
import Derived.Test.YtlhcojclfgbobaaReg
import Derived.Test.YtlhcojclfgbobaaMap
import Derived.Test.YtlhcojclfgbobaaStrs
import Derived.Test.YtlhcojclfgbobaaKindB
import Derived.Test.YtlhcojclfgbobaaSeq
import Derived.Test.YtlhcojclfgbobaaStop
import Derived.Lib.SliceRun
import Derived.OwnWalk
import Derived.Laws.Rows
import Derived.Deep.AppendLies
namespace Go.Proofs.Ytlhcojclfgbobaa
open Go.RowKit

/-- Strings in memory that aren't none: where. -/
theorem StrsAt.form {w : World} {v : Value} {xs : List (List UInt8)} (h : StrsAt w v xs) (hx : xs ≠ []) : ∃ b o cap, v = .slice (some ⟨b, o, none⟩) xs.length cap ∧ ∀ i (hi : i < xs.length), w.cell? ⟨b, o + i, none⟩ = some (strV xs[i]) := by
  obtain ⟨a, cap, rfl, h⟩ := h
  obtain ⟨b, o, rfl, _⟩ := h 0 (List.length_pos_iff.2 hx)
  refine ⟨b, o, cap, rfl, fun i hi => ?_⟩
  obtain ⟨b', o', e, hc⟩ := h i hi
  simp only [Option.some.injEq, Addr.mk.injEq, and_true] at e
  obtain ⟨rfl, rfl⟩ := e
  exact hc

theorem info_str : (Try.prog.info? 9).map (fun i => (i.zero, i.size, i.bytes)) = some (some (.string ⟨#[]⟩), 1, 16) := by kernel_rfl

set_option maxHeartbeats 2000000 in
set_option maxRecDepth 100000 in
theorem SClone_any (b o n c : Nat) (xs : List (List UInt8)) (w : World) (hn : xs.length = n) (hbig : n * 16 ≤ 140737488355328) (hc : ∀ i (hi : i < xs.length), w.cell? ⟨b, o + i, none⟩ = some (strV xs[i])) :
    Calls Try.prog 39 #[.slice (some ⟨b, o, none⟩) n c] w fun e w' => ∃ v', e = .returned v' ∧ w'.ownsRow w.heap.size 9 1 v' n (strsV xs) ∧ Below w.heap.size w w' := by
  obtain ⟨i0, hi, hz0, hz1, hz2⟩ := info_parts info_str
  have q24 : ∀ (w : World) (a : Option Addr) (n c n' c' : Nat), (binOp .eql 22 (.slice a n c) (.slice none n' c')).run Try.prog w = .ok (.bool a.isNone) w := fun w a n c n' c' => Lib.run_eql_slice_nil w _ _ a n c n' c' Try.underlying22
  have A := Lib.hid hc
  clear hc
  go_enter Try.func39, Try.ntmps39
  go_wp2_with (at_builtin; refine wpList_append_own _ rfl _ _ 22 rfl w.heap.size 9 i0 (.string { data := #[] }) 1 16 Try.underlying22 hi hz0 hz1 hz2 rfl (by decide) _ _ _ rfl (World.ownsRow_made w #[] 0 (Nat.le_refl _) (Nat.zero_le _) rfl) ⟨b, o, none⟩ n c (strsV xs) rfl ?qc1 ?qc2 ?qc3 ?qc4 ?qc5 ?qc6 ?_)
  case qc1 => simp [strsV, hn]
  case qc2 =>
    intro j u hj
    have hjn : j < xs.length := by
      have := (List.getElem?_eq_some_iff.1 hj).1
      simpa [strsV] using this
    rw [Addr.add_lit]
    refine Lib.cell?_alloc_some _ ?_
    rw [A.out j hjn]
    have e : (strsV xs)[j]? = some (strV xs[j]) := by simp [strsV, hjn]
    rw [e] at hj
    exact hj
  case qc3 => intro u hu; obtain ⟨x, _, rfl⟩ := List.mem_map.1 hu; rfl
  case qc4 => unfold maxLen; omega
  case qc5 => omega
  case qc6 => simp
  intro v' w1 hown hgrow hnil
  go_wp2
  go_ret
  refine ⟨v', rfl, by simpa using hown, ?_⟩
  exact ((Below.refl _ w).alloc (Nat.le_refl _) _).grown hgrow (by simp) (by intro k hk; simp [Value.ownBlock] at hk; omega)
end Go.Proofs.Ytlhcojclfgbobaa
