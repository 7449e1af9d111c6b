/- Opening pieces and a match that came in from outside. -/
import Derived.Test.YtalgdihaeglleaaExpH
import Derived.WalkKit
import Derived.ProofKit
import Derived.OpenShut
import Derived.Lib.SmallJoins
import Derived.Deep.Slices
namespace Go.Proofs.Ytalgdihaeglleaa
open Go.ChangeShapes Go.WideShapes Go.ChangeAt Go.RowKit

theorem weightsAll_mem {H : Type} {P : Program} {e : TypeId} {d : DataW H} {n : Nat} : ∀ {l : List (DataW H)}, d ∈ l → n ∈ d.weights P e → n ∈ DataW.weightsAll P e l
  | x :: l, h, hn => by
    simp only [DataW.weightsAll, List.mem_append]
    rcases List.mem_cons.1 h with rfl | h
    · exact .inl hn
    · exact .inr (weightsAll_mem h hn)
theorem all_le {l : List Nat} {r n : Nat} (h : l.all (· ≤ r) = true) (hn : n ∈ l) : n ≤ r := of_decide_eq_true (List.all_eq_true.1 h n hn)

theorem wE_cons {H : Type} {P : Program} {t : TypeId} {ts : List TypeId} {d : DataW H} {ds : List (DataW H)} {r : Nat} (h : (DataW.weightsEach P (t :: ts) (d :: ds)).all (· ≤ r) = true) :
    (d.weights P t).all (· ≤ r) = true ∧ (DataW.weightsEach P ts ds).all (· ≤ r) = true := by
  simpa [DataW.weightsEach, List.all_append] using h

/-- One piece read. -/
theorem open_tm {H : Type} {enc : TypeId × Value → H} {P : Program} {w : World} {base : Nat} {spare : Nat → Bool} {held : Bool} {e : TypeId} {f0 f1 f2 f3 : Field} {cs : List Value} {fuel : Nat} {x : DataW H × List MemPlace}
    (he : P.underlying e = some (.struct #[f0, f1, f2, f3])) (ho : f0.offset = 0 ∧ f1.offset = 1 ∧ f2.offset = 2 ∧ f3.offset = 3)
    (hc : P.cellsOf e = 4 ∧ P.cellsOf f0.type = 1 ∧ P.cellsOf f1.type = 1 ∧ P.cellsOf f2.type = 1 ∧ P.cellsOf f3.type = 1)
    (h0 : P.underlying f0.type = some (.int .u8)) (h1 : P.underlying f1.type = some .string) (h2 : P.underlying f2.type = some (.int .i64)) (h3 : P.underlying f3.type = some (.int .u8))
    (h : DataW.trod enc P w base spare held fuel e cs = some x) :
    ∃ t : Tm, cs = t.cells ∧ t.text.size ∈ x.1.weights P e := by
  obtain ⟨y0, y1, y2, y3, n, rfl, hl, g0, g1, g2, g3⟩ := Joins.trod_struct4 he h
  rw [hc.1] at hl
  rw [hc.2.1, ho.1] at g0
  rw [hc.2.2.1, ho.2.1] at g1
  rw [hc.2.2.2.1, ho.2.2.1] at g2
  rw [hc.2.2.2.2, ho.2.2.2] at g3
  match cs, hl with
  | [c0, c1, c2, c3], _ =>
    obtain ⟨a0, e0, _, _⟩ := DataW.trod_int h0 g0
    obtain ⟨a1, e1, r1, _⟩ := DataW.trod_string h1 g1
    obtain ⟨a2, e2, _, _⟩ := DataW.trod_int h2 g2
    obtain ⟨a3, e3, _, _⟩ := DataW.trod_int h3 g3
    simp at e0 e1 e2 e3
    subst e0 e1 e2 e3
    refine ⟨⟨a0, a1, a2, a3⟩, rfl, ?_⟩
    subst r1
    simp only [DataW.weights, he, DataW.weightsEach, List.map_cons, List.map_nil, List.mem_append]
    right
    left
    simp only [List.mem_singleton]
    exact (Array.length_toList (xs := a1.data)).symm

theorem open_tms {H : Type} {enc : TypeId × Value → H} {P : Program} {w : World} {base b0 : Nat} {r : Reach} {spare : Nat → Bool} {held : Bool} {t e : TypeId} {f0 f1 f2 f3 : Field} {v : Value} {d : DataW H} {p : List MemPlace}
    (ht : P.underlying t = some (.slice e))
    (he : P.underlying e = some (.struct #[f0, f1, f2, f3])) (ho : f0.offset = 0 ∧ f1.offset = 1 ∧ f2.offset = 2 ∧ f3.offset = 3)
    (hc : P.cellsOf e = 4 ∧ P.cellsOf f0.type = 1 ∧ P.cellsOf f1.type = 1 ∧ P.cellsOf f2.type = 1 ∧ P.cellsOf f3.type = 1)
    (h0 : P.underlying f0.type = some (.int .u8)) (h1 : P.underlying f1.type = some .string) (h2 : P.underlying f2.type = some (.int .i64)) (h3 : P.underlying f3.type = some (.int .u8))
    (hv : Value.okWide P w r b0 t v) (h : DataW.Trod enc P w base spare held t v d p) (hw : (d.weights P t).all (· ≤ reachBytes) = true) :
    ∃ a cap ts, v = tmsV a ts.length cap ∧ TmsAt w a ts ∧ ts.length ≤ maxLen ∧ ∀ t ∈ ts, t.text.size ≤ reachBytes := by
  obtain ⟨a, len, cap, rfl⟩ := okWide_slice ht hv
  obtain ⟨fuel, hf⟩ := h
  rcases Deep.open_slice ht hf with ⟨e0, _⟩ | ⟨a', len', cap', m, n, D, Pl, e0, hb, hle, hm, hmm, hx, hel⟩
  · simp [Value.cells] at e0
    obtain ⟨rfl, rfl, rfl⟩ := e0
    exact ⟨none, 0, [], rfl, fun i hi => by simp at hi, by simp, by simp⟩
  · simp [Value.cells] at e0
    obtain ⟨rfl, rfl, rfl⟩ := e0
    have hlm : len ≤ m := by rw [hmm]; split <;> omega
    have key : ∀ i, i < len → ∃ t : Tm, t.text.size ≤ reachBytes ∧ ∀ j, j < 4 → w.cell? ((a'.add (i * 4)).add j) = t.cells[j]? := by
      intro i hi
      obtain ⟨cs', q1, q2⟩ := hel i (by omega)
      obtain ⟨t, rfl, hmem⟩ := open_tm he ho hc h0 h1 h2 h3 q2
      rw [hc.1] at q1
      obtain ⟨_, _, hcell⟩ := World.cells?_some q1
      refine ⟨t, all_le hw ?_, hcell⟩
      have : d = .slice ((List.range len).map D) ((List.range (m - len)).map fun j => D (len + j)) := by injection hx
      rw [this]
      simp only [DataW.weights, ht, List.mem_cons, List.mem_append]
      exact .inr (.inl (weightsAll_mem (List.mem_map.2 ⟨i, by simpa using hi, rfl⟩) hmem))
    obtain ⟨f, hfk⟩ : ∃ f : Nat → Tm, ∀ i, i < len → ((f i).text.size ≤ reachBytes ∧ ∀ j, j < 4 → w.cell? ((a'.add (i * 4)).add j) = (f i).cells[j]?) := by
      classical
      refine ⟨fun i => if h : i < len then (key i h).choose else ⟨0, ⟨#[]⟩, 0, 0⟩, fun i hi => ?_⟩
      simp only [dif_pos hi]
      exact (key i hi).choose_spec
    refine ⟨some a', cap, (List.range len).map f, by simp [tmsV], ?_, by simp; omega, ?_⟩
    · intro i hi
      have hi' : i < len := by simpa using hi
      have hg := (hfk i hi').2
      have hsp : a'.spot = none := by
        have h00 := (hfk 0 (by omega)).2 0 (by omega)
        simp only [Nat.zero_mul, Addr.add, if_pos] at h00
        simp only [Tm.cells, List.getElem?_cons_zero] at h00
        cases hs : a'.spot with
        | none => rfl
        | some q =>
          simp only [World.cell?, hs, Option.isSome_some, if_true] at h00
          split at h00 <;> simp at h00
      obtain ⟨b, o, s⟩ := a'
      simp only at hsp
      subst hsp
      refine ⟨b, o, rfl, ?_⟩
      have hget : ((List.range len).map f)[i] = f i := by simp
      rw [hget]
      have add0 : ∀ k j, (Addr.add ⟨b, o, none⟩ k).add j = ⟨b, o + k + j, none⟩ := by
        intro k j
        unfold Addr.add
        split <;> split <;> simp_all
      have g0 := hg 0 (by omega)
      have g1 := hg 1 (by omega)
      have g2 := hg 2 (by omega)
      have g3 := hg 3 (by omega)
      rw [add0] at g0 g1 g2 g3
      exact ⟨g0, g1, g2, g3⟩
    · intro t ht'
      obtain ⟨i, hi, rfl⟩ := List.mem_map.1 ht'
      exact (hfk i (by simpa using hi)).1

/-- A match read. -/
theorem open_match {H : Type} {enc : TypeId × Value → H} {P : Program} {w : World} {base b0 : Nat} {r : Reach} {spare : Nat → Bool} {held : Bool} {t te : TypeId} {f0 f1 f2 f3 : Field} {v : Value} {d : DataW H} {p : List MemPlace}
    (ht : P.underlying t = some (.struct #[f0, f1, f2, f3])) (ho : f2.offset = 2 ∧ f3.offset = 12) (hc : P.cellsOf t = 22 ∧ P.cellsOf f2.type = 10 ∧ P.cellsOf f3.type = 10 ∧ P.cellsOf te = 1)
    (h2 : P.underlying f2.type = some (.array 10 te)) (h3 : P.underlying f3.type = some (.array 10 te)) (hi : P.underlying te = some (.int .i64))
    (hv : Value.okWide P w r b0 t v) (h : DataW.Trod enc P w base spare held t v d p) :
    ∃ cs mb me, v = .agg cs ∧ IsMatch cs mb me := by
  obtain ⟨cs, rfl, hsz⟩ := okWide_struct ht hv
  obtain ⟨fuel, hf⟩ := h
  obtain ⟨y0, y1, y2, y3, n, _, hl, g0, g1, g2, g3⟩ := Joins.trod_struct4 ht hf
  simp only [Value.cells] at hl g2 g3
  rw [hc.1] at hl
  rw [hc.2.1, ho.1] at g2
  rw [hc.2.2.1, ho.2] at g3
  obtain ⟨xs2, m2, _, _, _, hl2, hi2⟩ := DataW.trod_array h2 g2
  obtain ⟨xs3, m3, _, _, _, hl3, hi3⟩ := DataW.trod_array h3 g3
  rw [hc.2.2.2] at hi2 hi3
  have k2 : ∀ j, j < 10 → ∃ a, cs[2 + j]? = some (.int .i64 a) := by
    intro j hj
    have q := hi2 j hj
    rw [List.getElem?_eq_getElem (by omega)] at q
    obtain ⟨a, e0, _, _⟩ := DataW.trod_int hi q
    refine ⟨a, ?_⟩
    have := congrArg (fun l => l[0]?) e0
    simp only [Nat.mul_one, List.getElem?_take_of_lt (show 0 < 1 by omega), List.getElem?_drop, Nat.add_zero, List.getElem?_cons_zero] at this
    rw [List.getElem?_take_of_lt (by omega), List.getElem?_drop] at this
    simpa using this
  have k3 : ∀ j, j < 10 → ∃ a, cs[12 + j]? = some (.int .i64 a) := by
    intro j hj
    have q := hi3 j hj
    rw [List.getElem?_eq_getElem (by omega)] at q
    obtain ⟨a, e0, _, _⟩ := DataW.trod_int hi q
    refine ⟨a, ?_⟩
    have := congrArg (fun l => l[0]?) e0
    simp only [Nat.mul_one, List.getElem?_take_of_lt (show 0 < 1 by omega), List.getElem?_drop, Nat.add_zero, List.getElem?_cons_zero] at this
    rw [List.getElem?_take_of_lt (by omega), List.getElem?_drop] at this
    simpa using this
  classical
  refine ⟨cs, fun j => if h : j < 10 then (k2 j h).choose else 0, fun j => if h : j < 10 then (k3 j h).choose else 0, rfl, hsz.trans hc.1, fun j hj => ?_, fun j hj => ?_⟩
  · simp only [dif_pos hj]
    exact (k2 j hj).choose_spec
  · simp only [dif_pos hj]
    exact (k3 j hj).choose_spec
end Go.Proofs.Ytalgdihaeglleaa
