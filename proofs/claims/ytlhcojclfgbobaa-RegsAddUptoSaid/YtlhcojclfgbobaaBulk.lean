/- What came in from outside, read type by type, and how much it is together (the bulk of a second form). -/
import Derived.Test.YtlhcojclfgbobaaRows
import Derived.Test.YtlhcojclfgbobaaRead
import Derived.Deep.Strs
namespace Go.Proofs.Ytlhcojclfgbobaa
open Go.ChangeShapes Go.WideShapes Go.ChangeAt Go.RowKit

namespace bulks
theorem one_le {H : Type} (d : DataW H) : 1 ≤ Rows.uptoBulk d := by
  cases d with
  | lit l => cases l <;> simp [Rows.uptoBulk]
  | nil => simp [Rows.uptoBulk]
  | ptr d => simp [Rows.uptoBulk]
  | slice elems spare => simp [Rows.uptoBulk]
  | agg parts => simp [Rows.uptoBulk]
  | iface t d => simp [Rows.uptoBulk]
  | map entries => simp [Rows.uptoBulk]
  | held h => simp [Rows.uptoBulk]
theorem all_sum {H : Type} (l : List (DataW H)) : Rows.uptoBulkAll l = (l.map Rows.uptoBulk).sum := by
  induction l with
  | nil => simp [Rows.uptoBulkAll]
  | cons d l ih => simp [Rows.uptoBulkAll, ih]
end bulks

section
variable {H : Type} {enc : TypeId × Value → H} {P : Program} {w : World} {base : Nat} {spare : Nat → Bool} {held : Bool}

/-- The cells of a type's value, as they read; their measure is at most the bulk. -/
def BReads (enc : TypeId × Value → H) (P : Program) (w : World) (base : Nat) (spare : Nat → Bool) (held : Bool) (t : TypeId) (α : Type) (Q : List Value → α → Prop) (m : α → Nat) : Prop :=
  ∀ fuel cs x, DataW.trod enc P w base spare held fuel t cs = some x → (x.1.weights P t).all (· ≤ reachBytes) = true → ∃ a : α, Q cs a ∧ m a ≤ Rows.uptoBulk x.1

theorem BReads.mono {t : TypeId} {α β : Type} {Q : List Value → α → Prop} {R : List Value → β → Prop} {m : α → Nat} {n : β → Nat} (h : BReads enc P w base spare held t α Q m) (hr : ∀ cs a, Q cs a → ∃ b, R cs b ∧ n b ≤ m a) : BReads enc P w base spare held t β R n := by
  intro fuel cs x hx hw
  obtain ⟨a, ha, hm⟩ := h fuel cs x hx hw
  obtain ⟨b, hb, hn⟩ := hr cs a ha
  exact ⟨b, hb, Nat.le_trans hn hm⟩
theorem breads_of {t : TypeId} {α : Type} {Q : List Value → α → Prop} (h : Reads enc P w base spare held t α Q) : BReads enc P w base spare held t α Q (fun _ => 1) := by
  intro fuel cs x hx hw
  obtain ⟨a, ha⟩ := h fuel cs x hx hw
  exact ⟨a, ha, bulks.one_le _⟩
theorem breads_string {t : TypeId} (ht : P.underlying t = some .string) : BReads enc P w base spare held t ByteArray (fun cs a => cs = [.string a] ∧ a.size ≤ reachBytes) (fun a => a.size + 1) := by
  intro fuel cs x hx hw
  obtain ⟨a, e, r, _⟩ := DataW.trod_string ht hx
  refine ⟨a, ⟨e, ?_⟩, ?_⟩
  · subst r
    exact all_le hw (by simp only [DataW.weights, List.mem_singleton]; exact (Array.length_toList (xs := a.data)).symm)
  · subst r
    simp only [Rows.uptoBulk]
    exact Nat.le_of_eq (congrArg (· + 1) (Array.length_toList (xs := a.data)).symm)

/-- Two fields of a struct. -/
theorem breads_two {t : TypeId} {f0 f1 : Field} (ht : P.underlying t = some (.struct #[f0, f1])) {α β : Type} {Q : List Value → α → Prop} {R : List Value → β → Prop} {m : α → Nat} {n : β → Nat}
    (h0 : BReads enc P w base spare held f0.type α Q m) (h1 : BReads enc P w base spare held f1.type β R n) :
    BReads enc P w base spare held t (α × β) (fun cs p => cs.length = P.cellsOf t ∧ Q ((cs.drop f0.offset).take (P.cellsOf f0.type)) p.1 ∧ R ((cs.drop f1.offset).take (P.cellsOf f1.type)) p.2) (fun p => m p.1 + n p.2 + 1) := by
  intro fuel cs x hx hw
  obtain ⟨y0, y1, k, rfl, hl, g0, g1⟩ := trod_struct2 ht hx
  simp only [DataW.weights, ht] at hw
  obtain ⟨a, ha, hma⟩ := h0 _ _ _ g0 (wE_at _ _ hw 0 _ _ rfl rfl)
  obtain ⟨b, hb, hmb⟩ := h1 _ _ _ g1 (wE_at _ _ hw 1 _ _ rfl rfl)
  exact ⟨(a, b), ⟨hl, ha, hb⟩, by simp only [Rows.uptoBulk, Rows.uptoBulkAll]; omega⟩
/-- Three. -/
theorem breads_three {t : TypeId} {f0 f1 f2 : Field} (ht : P.underlying t = some (.struct #[f0, f1, f2])) {α β γ : Type} {Q : List Value → α → Prop} {R : List Value → β → Prop} {S : List Value → γ → Prop} {m : α → Nat} {n : β → Nat} {k : γ → Nat}
    (h0 : BReads enc P w base spare held f0.type α Q m) (h1 : BReads enc P w base spare held f1.type β R n) (h2 : BReads enc P w base spare held f2.type γ S k) :
    BReads enc P w base spare held t (α × β × γ) (fun cs p => cs.length = P.cellsOf t ∧ Q ((cs.drop f0.offset).take (P.cellsOf f0.type)) p.1 ∧ R ((cs.drop f1.offset).take (P.cellsOf f1.type)) p.2.1 ∧ S ((cs.drop f2.offset).take (P.cellsOf f2.type)) p.2.2)
      (fun p => m p.1 + n p.2.1 + k p.2.2 + 1) := by
  intro fuel cs x hx hw
  obtain ⟨y0, y1, y2, k, rfl, hl, g0, g1, g2⟩ := Deep.trod_struct3 ht hx
  simp only [DataW.weights, ht] at hw
  obtain ⟨a, ha, hma⟩ := h0 _ _ _ g0 (wE_at _ _ hw 0 _ _ rfl rfl)
  obtain ⟨b, hb, hmb⟩ := h1 _ _ _ g1 (wE_at _ _ hw 1 _ _ rfl rfl)
  obtain ⟨c, hc, hmc⟩ := h2 _ _ _ g2 (wE_at _ _ hw 2 _ _ rfl rfl)
  exact ⟨(a, b, c), ⟨hl, ha, hb, hc⟩, by simp only [Rows.uptoBulk, Rows.uptoBulkAll]; omega⟩
/-- A slice. -/
theorem breads_slice {t e : TypeId} {sz bytes : Nat} (ht : P.underlying t = some (.slice e)) (hs : P.cellsOf e = sz) (h0 : 0 < sz) (hb : P.bytesOf e = bytes) {α : Type} {Q : List Value → α → Prop} {ms : α → Nat} (hQ : BReads enc P w base spare held e α Q ms) :
    BReads enc P w base spare held t (List α) (SliceAt w sz bytes Q) (fun l => (l.map ms).sum + 1) := by
  intro fuel cs x hx hw
  rcases Deep.open_slice ht hx with ⟨e0, _⟩ | ⟨a', len, cap, m, n, D, Pl, e0, hbb, hle, hm, hmm, hxx, hel⟩
  · exact ⟨[], ⟨none, 0, e0, by simp, by simp, fun i hi => by simp at hi⟩, by simpa using bulks.one_le _⟩
  · have hlm : len ≤ m := by rw [hmm]; split <;> omega
    subst hxx
    simp only [DataW.weights, ht, List.all_cons, List.all_append, Bool.and_eq_true, decide_eq_true_eq] at hw
    obtain ⟨hwl, hwe, _⟩ := hw
    rw [hb] at hwl
    simp only [List.length_map, List.length_range] at hwl
    have key : ∀ i, i < len → ∃ (a : α) (cs' : List Value), (∀ j, j < sz → w.cell? ((a'.add (i * sz)).add j) = cs'[j]?) ∧ cs'.length = sz ∧ Q cs' a ∧ ms a ≤ Rows.uptoBulk (D i) := by
      intro i hi
      obtain ⟨cs', q1, q2⟩ := hel i (by omega)
      rw [hs] at q1
      obtain ⟨_, hl, hcell⟩ := World.cells?_some q1
      obtain ⟨a, ha⟩ := hQ _ _ _ q2 (wA_at _ hwe i _ (by simp [hi]))
      exact ⟨a, cs', hcell, hl, ha.1, ha.2⟩
    obtain ⟨f, hf⟩ : ∃ f : Nat → Option (α × List Value), ∀ i, i < len → ∃ p, f i = some p ∧ (∀ j, j < sz → w.cell? ((a'.add (i * sz)).add j) = p.2[j]?) ∧ p.2.length = sz ∧ Q p.2 p.1 ∧ ms p.1 ≤ Rows.uptoBulk (D i) := by
      classical
      refine ⟨fun i => if h : i < len then some ((key i h).choose, (key i h).choose_spec.choose) else none, fun i hi => ?_⟩
      simp only [dif_pos hi]
      exact ⟨_, rfl, (key i hi).choose_spec.choose_spec⟩
    have hl : ∃ l : List α, l.length = len ∧ ∀ i (h : i < l.length), ∃ p, f i = some p ∧ l[i] = p.1 := by
      clear hel key hwe hwl e0 hx
      have : ∀ k, k ≤ len → ∃ l : List α, l.length = k ∧ ∀ i (h : i < l.length), ∃ p, f i = some p ∧ l[i] = p.1 := by
        intro k
        induction k with
        | zero => intro _; exact ⟨[], rfl, fun i h => by simp at h⟩
        | succ k ih =>
          intro hk
          obtain ⟨l, hl, h⟩ := ih (by omega)
          obtain ⟨p, hp, _⟩ := hf k (by omega)
          refine ⟨l ++ [p.1], by simp [hl], fun i hi => ?_⟩
          by_cases hik : i < l.length
          · obtain ⟨q, hq, e⟩ := h i hik
            exact ⟨q, hq, by rw [List.getElem_append_left hik]; exact e⟩
          · have : i = k := by simp at hi; omega
            subst this
            exact ⟨p, hp, by rw [List.getElem_append_right (by omega)]; simp⟩
      exact this len (Nat.le_refl _)
    obtain ⟨l, hl, hlp⟩ := hl
    have hsp : 0 < len → a'.spot = none := by
      intro hpos
      obtain ⟨p, _, h1, h2, _, _⟩ := hf 0 hpos
      have h00 := h1 0 h0
      simp only [Nat.zero_mul, Addr.add, if_pos] at h00
      rw [List.getElem?_eq_getElem (by omega)] at h00
      cases hs : a'.spot with
      | none => rfl
      | some q =>
        simp only [World.cell?, hs, Option.isSome_some, if_true] at h00
        split at h00 <;> simp at h00
    have hsum : (l.map ms).sum ≤ Rows.uptoBulkAll ((List.range len).map D) := by
      rw [bulks.all_sum]
      have hg : ∀ (k : Nat), k ≤ len → ((l.take k).map ms).sum ≤ ((((List.range len).map D).take k).map Rows.uptoBulk).sum := by
        intro k
        induction k with
        | zero => intro _; simp
        | succ k ih =>
          intro hk
          have h1 := ih (by omega)
          rw [List.take_succ_eq_append_getElem (by omega), List.take_succ_eq_append_getElem (by simp; omega)]
          simp only [List.map_append, List.sum_append, List.map_cons, List.map_nil, List.sum_cons, List.sum_nil, Nat.add_zero, List.getElem_map, List.getElem_range]
          obtain ⟨p, hp, e⟩ := hlp k (by omega)
          obtain ⟨p', hp', _, _, _, h3⟩ := hf k (by omega)
          rw [hp] at hp'
          cases hp'
          rw [e]
          simp only [List.map_take] at h1 ⊢
          omega
      have := hg len (Nat.le_refl _)
      rwa [List.take_of_length_le (by omega), List.take_of_length_le (by simp)] at this
    refine ⟨l, ⟨some a', cap, by rw [hl]; exact e0, ?_, by omega, ?_⟩, by simp only [Rows.uptoBulk]; omega⟩
    · rw [hl]
      refine Nat.le_trans (Nat.mul_le_mul_right _ ?_) hwl
      omega
    · intro i hi
      obtain ⟨p, hp, e⟩ := hlp i hi
      obtain ⟨p', hp', h1, h2, h3, _⟩ := hf i (by omega)
      rw [hp] at hp'
      cases hp'
      have hsp := hsp (by omega)
      obtain ⟨b, o, s⟩ := a'
      simp only at hsp
      subst hsp
      refine ⟨b, o, p.2, rfl, fun j hj => ?_, h2, by rw [e]; exact h3⟩
      rw [← h1 j hj]
      congr 1
      unfold Addr.add
      split <;> split <;> simp_all

theorem BReads.open_bulk {t : TypeId} {α : Type} {Q : List Value → α → Prop} {m : α → Nat} (hQ : BReads enc P w base spare held t α Q m) {v : Value} {d : DataW H} {p : List MemPlace} (h : DataW.Trod enc P w base spare held t v d p) (hw : (d.weights P t).all (· ≤ reachBytes) = true) : ∃ a, Q v.cells.toList a ∧ m a ≤ Rows.uptoBulk d := by
  obtain ⟨fuel, hf⟩ := h
  exact hQ fuel _ _ hf hw
end
end Go.Proofs.Ytlhcojclfgbobaa
