/- Registers' values that came in from outside, and how much they are together. -/
import Derived.Test.YtlhcojclfgbobaaRegRd
import Derived.Test.YtlhcojclfgbobaaBulk
namespace Go.Proofs.Ytlhcojclfgbobaa
open Go.ChangeShapes Go.WideShapes Go.ChangeAt Go.RowKit

section
variable {H : Type} {enc : TypeId × Value → H} {w : World} {base : Nat} {spare : Nat → Bool} {held : Bool}

theorem sumL_map (l : List ByteArray) : sumL (l.map fun s => s.data.toList) + l.length = (l.map fun s => s.size + 1).sum := by
  unfold sumL
  induction l with
  | nil => rfl
  | cons s l ih =>
    have : s.data.toList.length = s.size := by simp
    simp only [List.map_cons, List.sum_cons, List.length_cons] at *
    omega

theorem breads_strs : BReads enc Try.prog w base spare held 22 (List (List UInt8)) (fun cs l => ∃ v, cs = [v] ∧ StrsAt w v l ∧ strsIn l) (fun l => l.length + sumL l) := by
  refine (breads_slice (sz := 1) (bytes := 16) Try.underlying22 (by kernel_rfl) (by decide) (by kernel_rfl) (breads_string Try.underlying9)).mono ?_
  rintro cs l ⟨a, cap, rfl, hb, hm, hel⟩
  refine ⟨l.map fun s => s.data.toList, ⟨_, rfl, ⟨a, cap, by simp, fun i hi => ?_⟩, by simp; unfold reachBytes at hb; omega, fun y hy => ?_⟩, by have := sumL_map l; simp only [List.length_map]; omega⟩
  · have hi' : i < l.length := by simpa using hi
    obtain ⟨b, o, cs', rfl, h1, _, hQ, _⟩ := hel i hi'
    refine ⟨b, o, rfl, ?_⟩
    have := h1 0 (by decide)
    rw [hQ] at this
    simp only [Nat.mul_one, Nat.add_zero, List.getElem?_cons_zero] at this
    rw [this]
    simp [strV]
  · obtain ⟨s, hs, rfl⟩ := List.mem_map.1 hy
    obtain ⟨i, hi, rfl⟩ := List.mem_iff_getElem.1 hs
    obtain ⟨b, o, cs', _, _, _, _, h⟩ := hel i hi
    unfold reachBytes at h
    simpa using h

theorem breads_reg : BReads enc Try.prog w base spare held 24 RegD (fun cs r => ∃ v, cs = [v, .bool r.whole] ∧ StrsAt w v r.lines ∧ strsIn r.lines) sizeR := by
  refine (breads_two Try.underlying24 breads_strs (breads_of (reads_bool Try.underlying4))).mono ?_
  rintro cs ⟨l, b⟩ ⟨hl, h0, h1⟩
  dsimp only at h0 h1
  rw [show Try.prog.cellsOf 24 = 2 by kernel_rfl] at hl
  rw [show Try.prog.cellsOf 22 = 1 by kernel_rfl] at h0
  rw [show Try.prog.cellsOf 4 = 1 by kernel_rfl] at h1
  match cs, hl with
  | [p, q], _ =>
    obtain ⟨v, e0, hs, hin⟩ := h0
    simp at e0 h1
    subst e0 h1
    exact ⟨⟨l, b⟩, ⟨p, rfl, hs, hin⟩, by simp [sizeR]; omega⟩

theorem breads_op : BReads enc Try.prog w base spare held 27 OpD (fun cs o => ∃ v, cs = [.int .u8 o.kind, .int .u8 o.name, v, .bool o.x.whole] ∧ StrsAt w v o.x.lines ∧ strsIn o.x.lines ∧ (0 ≤ o.name ∧ o.name ≤ 255) ∧ (0 ≤ o.kind ∧ o.kind ≤ 255)) (fun o => sizeR o.x) := by
  refine (breads_three Try.underlying27 (breads_of (reads_int Try.underlying5)) (breads_of (reads_int Try.underlying5)) breads_reg).mono ?_
  rintro cs ⟨k, n, r⟩ ⟨hl, h0, h1, h2⟩
  dsimp only at h0 h1 h2
  rw [show Try.prog.cellsOf 27 = 4 by kernel_rfl] at hl
  rw [show Try.prog.cellsOf 5 = 1 by kernel_rfl] at h0 h1
  rw [show Try.prog.cellsOf 24 = 2 by kernel_rfl] at h2
  match cs, hl with
  | [p, q, s, t], _ =>
    obtain ⟨e0, w0⟩ := h0
    obtain ⟨e1, w1⟩ := h1
    obtain ⟨v, e2, hs, hin⟩ := h2
    simp at e0 e1 e2
    obtain ⟨rfl, rfl⟩ := e2
    subst e0 e1
    refine ⟨⟨k, n, r⟩, ⟨s, rfl, hs, hin, ?_, ?_⟩, by simp; omega⟩
    · simpa [Lit.wf, IntKind.min, IntKind.max, IntKind.signed, IntKind.bits] using w1
    · simpa [Lit.wf, IntKind.min, IntKind.max, IntKind.signed, IntKind.bits] using w0

theorem breads_ops : BReads enc Try.prog w base spare held 28 (List OpD) (fun cs ts => ∃ a cap, cs = [.slice a ts.length cap] ∧ OpsAt w a ts ∧ opsIn ts) opsSum := by
  refine (breads_slice (sz := 4) (bytes := 40) Try.underlying28 (by kernel_rfl) (by decide) (by kernel_rfl) breads_op).mono ?_
  rintro cs ts ⟨a, cap, rfl, hb, hm, hel⟩
  refine ⟨ts, ⟨a, cap, rfl, fun i hi => ?_, by unfold reachBytes at hb; omega, fun t ht => ?_⟩, Nat.le_succ _⟩
  · obtain ⟨b, o, cs', e, h1, _, v, rfl, hs, hin⟩ := hel i hi
    exact ⟨b, o, v, e, by simpa using h1 0 (by decide), by simpa using h1 1 (by decide), by simpa using h1 2 (by decide), by simpa using h1 3 (by decide), hs⟩
  · obtain ⟨i, hi, rfl⟩ := List.mem_iff_getElem.1 ht
    obtain ⟨b, o, cs', e, h1, _, v, rfl, hs, hin⟩ := hel i hi
    exact hin
end
end Go.Proofs.Ytlhcojclfgbobaa
