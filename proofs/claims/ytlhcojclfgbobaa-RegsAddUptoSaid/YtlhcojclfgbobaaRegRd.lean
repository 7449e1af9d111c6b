/- Registers' values that came in from outside. -/
import Derived.Test.YtlhcojclfgbobaaRead
import Derived.Test.YtlhcojclfgbobaaRegO
namespace Go.Proofs.Ytlhcojclfgbobaa
open Go.ChangeShapes Go.WideShapes Go.ChangeAt Go.RowKit

section
variable {H : Type} {enc : TypeId × Value → H} {w : World} {base : Nat} {spare : Nat → Bool} {held : Bool}

/-- Within the reach. -/
def strsIn (l : List (List UInt8)) : Prop := l.length ≤ 8796093021952 ∧ ∀ y ∈ l, y.length ≤ 140737488351232

theorem reads_strs : Reads enc Try.prog w base spare held 22 (List (List UInt8)) (fun cs l => ∃ v, cs = [v] ∧ StrsAt w v l ∧ strsIn l) := by
  refine (reads_slice (sz := 1) (bytes := 16) Try.underlying22 (by kernel_rfl) (by decide) (by kernel_rfl) (reads_string Try.underlying9)).mono ?_
  rintro cs l ⟨a, cap, rfl, hb, hm, hel⟩
  refine ⟨l.map fun s => s.data.toList, _, rfl, ⟨a, cap, by simp, fun i hi => ?_⟩, by simp; unfold reachBytes at hb; omega, fun y hy => ?_⟩
  · have hi' : i < l.length := by simpa using hi
    obtain ⟨b, o, cs', rfl, h1, _, hQ, _⟩ := hel i hi'
    refine ⟨b, o, rfl, ?_⟩
    have := h1 0 (by decide)
    rw [hQ] at this
    simp only [Nat.mul_one, Nat.add_zero, List.getElem?_cons_zero] at this
    rw [this]
    simp [strV]
  · obtain ⟨s, hs, rfl⟩ := List.mem_map.1 hy
    obtain ⟨i, hi, rfl⟩ := List.mem_iff_getElem.1 hs
    obtain ⟨b, o, cs', _, _, _, _, h⟩ := hel i hi
    unfold reachBytes at h
    simpa using h

theorem reads_reg : Reads enc Try.prog w base spare held 24 RegD (fun cs r => ∃ v, cs = [v, .bool r.whole] ∧ StrsAt w v r.lines ∧ strsIn r.lines) := by
  intro fuel cs x hx hw
  have hl := reads_len Try.underlying24 hx
  obtain ⟨l, h0⟩ := reads_field Try.underlying24 hx hw 0 rfl reads_strs
  obtain ⟨b, h1⟩ := reads_field Try.underlying24 hx hw 1 rfl (reads_bool Try.underlying4)
  have c2 : Try.prog.cellsOf 24 = 2 := by kernel_rfl
  have c0 : Try.prog.cellsOf 22 = 1 := by kernel_rfl
  have c1 : Try.prog.cellsOf 4 = 1 := by kernel_rfl
  rw [c2] at hl
  dsimp only at h0 h1
  rw [c0] at h0
  rw [c1] at h1
  match cs, hl with
  | [p, q], _ =>
    obtain ⟨v, e0, hs, hin⟩ := h0
    simp at e0 h1
    subst e0 h1
    exact ⟨⟨l, b⟩, p, rfl, hs, hin⟩

theorem regs_in {cs : List Value} {ts : List RegD} (h : SliceAt w 2 32 (fun cs (r : RegD) => ∃ v, cs = [v, .bool r.whole] ∧ StrsAt w v r.lines ∧ strsIn r.lines) cs ts) :
    ∃ a cap, cs = [.slice a ts.length cap] ∧ RegsIn w a ts ∧ ts.length ≤ 8796093021952 ∧ ∀ t ∈ ts, strsIn t.lines := by
  obtain ⟨a, cap, rfl, hb, hm, hel⟩ := h
  refine ⟨a, cap, rfl, fun i hi => ?_, by unfold reachBytes at hb; omega, fun t ht => ?_⟩
  · obtain ⟨b, o, cs', e, h1, _, v, rfl, hs, hin⟩ := hel i hi
    exact ⟨b, o, v, e, by simpa using h1 0 (by decide), by simpa using h1 1 (by decide), hs⟩
  · obtain ⟨i, hi, rfl⟩ := List.mem_iff_getElem.1 ht
    obtain ⟨b, o, cs', e, h1, _, v, rfl, hs, hin⟩ := hel i hi
    exact hin
theorem reads_regs : Reads enc Try.prog w base spare held 40 (List RegD) (fun cs ts => ∃ a cap, cs = [.slice a ts.length cap] ∧ RegsIn w a ts ∧ ts.length ≤ 8796093021952 ∧ ∀ t ∈ ts, strsIn t.lines) :=
  (reads_slice (sz := 2) (bytes := 32) Try.underlying40 (by kernel_rfl) (by decide) (by kernel_rfl) reads_reg).mono fun cs a h => ⟨a, regs_in h⟩

theorem reads_op : Reads enc Try.prog w base spare held 27 OpD (fun cs o => ∃ v, cs = [.int .u8 o.kind, .int .u8 o.name, v, .bool o.x.whole] ∧ StrsAt w v o.x.lines ∧ strsIn o.x.lines ∧ (0 ≤ o.name ∧ o.name ≤ 255) ∧ (0 ≤ o.kind ∧ o.kind ≤ 255)) := by
  intro fuel cs x hx hw
  have hl := reads_len Try.underlying27 hx
  obtain ⟨k, h0⟩ := reads_field Try.underlying27 hx hw 0 rfl (reads_int Try.underlying5)
  obtain ⟨n, h1⟩ := reads_field Try.underlying27 hx hw 1 rfl (reads_int Try.underlying5)
  obtain ⟨r, h2⟩ := reads_field Try.underlying27 hx hw 2 rfl reads_reg
  have c4 : Try.prog.cellsOf 27 = 4 := by kernel_rfl
  have c1 : Try.prog.cellsOf 5 = 1 := by kernel_rfl
  have c2 : Try.prog.cellsOf 24 = 2 := by kernel_rfl
  rw [c4] at hl
  dsimp only at h0 h1 h2
  rw [c1] at h0 h1
  rw [c2] at h2
  match cs, hl with
  | [p, q, s, t], _ =>
    obtain ⟨e0, w0⟩ := h0
    obtain ⟨e1, w1⟩ := h1
    obtain ⟨v, e2, hs, hin⟩ := h2
    simp at e0 e1 e2
    obtain ⟨rfl, rfl⟩ := e2
    subst e0 e1
    refine ⟨⟨k, n, r⟩, s, rfl, hs, hin, ?_, ?_⟩
    · simpa [Lit.wf, IntKind.min, IntKind.max, IntKind.signed, IntKind.bits] using w1
    · simpa [Lit.wf, IntKind.min, IntKind.max, IntKind.signed, IntKind.bits] using w0

/-- Calls within the reach. -/
def opsIn (ts : List OpD) : Prop := ts.length ≤ 8796093021952 ∧ ∀ t ∈ ts, strsIn t.x.lines ∧ (0 ≤ t.name ∧ t.name ≤ 255) ∧ (0 ≤ t.kind ∧ t.kind ≤ 255)
theorem reads_ops : Reads enc Try.prog w base spare held 28 (List OpD) (fun cs ts => ∃ a cap, cs = [.slice a ts.length cap] ∧ OpsAt w a ts ∧ opsIn ts) := by
  refine (reads_slice (sz := 4) (bytes := 40) Try.underlying28 (by kernel_rfl) (by decide) (by kernel_rfl) reads_op).mono ?_
  rintro cs ts ⟨a, cap, rfl, hb, hm, hel⟩
  refine ⟨ts, a, cap, rfl, fun i hi => ?_, by unfold reachBytes at hb; omega, fun t ht => ?_⟩
  · obtain ⟨b, o, cs', e, h1, _, v, rfl, hs, hin⟩ := hel i hi
    exact ⟨b, o, v, e, by simpa using h1 0 (by decide), by simpa using h1 1 (by decide), by simpa using h1 2 (by decide), by simpa using h1 3 (by decide), hs⟩
  · obtain ⟨i, hi, rfl⟩ := List.mem_iff_getElem.1 ht
    obtain ⟨b, o, cs', e, h1, _, v, rfl, hs, hin⟩ := hel i hi
    exact hin
end

theorem shift_law2 {w : World} (a : Option Addr) (cp : Nat) (ts : List RegD) (h : RegsIn w a ts ∧ ts.length ≤ 8796093021952 ∧ ∀ t ∈ ts, strsIn t.lines) :
    Calls Try.prog 5 #[.slice a ts.length cp] w fun e w' => e = .returned (.bool true) ∧ Below w.heap.size w w' :=
  shift_law a cp ts w h.1 h.2.1 (fun t ht => (h.2.2 t ht).1) (fun t ht y hy => Nat.le_trans ((h.2.2 t ht).2 y hy) (by decide))
end Go.Proofs.Ytlhcojclfgbobaa
