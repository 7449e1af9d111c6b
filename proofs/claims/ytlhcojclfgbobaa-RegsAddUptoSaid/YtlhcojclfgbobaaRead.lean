/- What came in from outside, read type by type: each string, slice within the reach. -/
import Derived.WalkKit
import Derived.ProofKit
import Derived.OpenShut
import Derived.Lib.SmallJoins
import Derived.Deep.Slices
namespace Go.Proofs.Ytlhcojclfgbobaa
open Go.ChangeShapes Go.WideShapes Go.ChangeAt Go.RowKit

theorem all_le {l : List Nat} {r n : Nat} (h : l.all (· ≤ r) = true) (hn : n ∈ l) : n ≤ r := of_decide_eq_true (List.all_eq_true.1 h n hn)
theorem wE_cons {H : Type} {P : Program} {t : TypeId} {ts : List TypeId} {d : DataW H} {ds : List (DataW H)} {r : Nat} (h : (DataW.weightsEach P (t :: ts) (d :: ds)).all (· ≤ r) = true) :
    (d.weights P t).all (· ≤ r) = true ∧ (DataW.weightsEach P ts ds).all (· ≤ r) = true := by
  simpa [DataW.weightsEach, List.all_append] using h
theorem wE_at {H : Type} {P : Program} {r : Nat} (ts : List TypeId) : ∀ (ds : List (DataW H)), (DataW.weightsEach P ts ds).all (· ≤ r) = true → ∀ (i : Nat) (t : TypeId) (d : DataW H), ts[i]? = some t → ds[i]? = some d → (d.weights P t).all (· ≤ r) = true := by
  induction ts with
  | nil => intro ds _ i t d h1 _; simp at h1
  | cons t0 ts ih =>
    intro ds h i t d h1 h2
    cases ds with
    | nil => simp at h2
    | cons d0 ds =>
      cases i with
      | zero => simp at h1 h2; subst h1 h2; exact (wE_cons h).1
      | succ i => exact ih ds (wE_cons h).2 i t d (by simpa using h1) (by simpa using h2)
theorem wA_at {H : Type} {P : Program} {e : TypeId} {r : Nat} (ds : List (DataW H)) : (DataW.weightsAll P e ds).all (· ≤ r) = true → ∀ (i : Nat) (d : DataW H), ds[i]? = some d → (d.weights P e).all (· ≤ r) = true := by
  induction ds with
  | nil => intro _ i d h2; simp at h2
  | cons d0 ds ih =>
    intro h i d h2
    simp only [DataW.weightsAll, List.all_append, Bool.and_eq_true] at h
    cases i with
    | zero => simp at h2; subst h2; exact h.1
    | succ i => exact ih h.2 i d (by simpa using h2)

section
variable {H : Type} {enc : TypeId × Value → H} {P : Program} {w : World} {base : Nat} {spare : Nat → Bool} {held : Bool}

/-- The cells of a type's value, as they read. -/
def Reads (enc : TypeId × Value → H) (P : Program) (w : World) (base : Nat) (spare : Nat → Bool) (held : Bool) (t : TypeId) (α : Type) (Q : List Value → α → Prop) : Prop :=
  ∀ fuel cs x, DataW.trod enc P w base spare held fuel t cs = some x → (x.1.weights P t).all (· ≤ reachBytes) = true → ∃ a : α, Q cs a

theorem Reads.mono {t : TypeId} {α β : Type} {Q : List Value → α → Prop} {R : List Value → β → Prop} (h : Reads enc P w base spare held t α Q) (hr : ∀ cs a, Q cs a → ∃ b, R cs b) : Reads enc P w base spare held t β R := by
  intro fuel cs x hx hw
  obtain ⟨a, ha⟩ := h fuel cs x hx hw
  exact hr cs a ha

theorem reads_int {t : TypeId} {k : IntKind} (ht : P.underlying t = some (.int k)) : Reads enc P w base spare held t Int (fun cs a => cs = [.int k a] ∧ (Lit.int k a).wf = true) := by
  intro fuel cs x hx _
  obtain ⟨a, e, _, hw⟩ := DataW.trod_int ht hx
  exact ⟨a, e, hw⟩
theorem reads_string {t : TypeId} (ht : P.underlying t = some .string) : Reads enc P w base spare held t ByteArray (fun cs a => cs = [.string a] ∧ a.size ≤ reachBytes) := by
  intro fuel cs x hx hw
  obtain ⟨a, e, r, _⟩ := DataW.trod_string ht hx
  refine ⟨a, e, ?_⟩
  subst r
  exact all_le hw (by simp only [DataW.weights, List.mem_singleton]; exact (Array.length_toList (xs := a.data)).symm)
theorem reads_bool {t : TypeId} (ht : P.underlying t = some .bool) : Reads enc P w base spare held t Bool (fun cs a => cs = [.bool a]) := by
  intro fuel cs x hx _
  obtain ⟨a, e, _⟩ := DataW.trod_bool ht hx
  exact ⟨a, e⟩

/-- A struct's field. -/
theorem reads_field {t : TypeId} {fs : Array Field} (ht : P.underlying t = some (.struct fs)) {fuel : Nat} {cs : List Value} {x : DataW H × List MemPlace} (h : DataW.trod enc P w base spare held fuel t cs = some x) (hw : (x.1.weights P t).all (· ≤ reachBytes) = true)
    (i : Nat) {f : Field} (hf : fs.toList[i]? = some f) {α : Type} {Q : List Value → α → Prop} (hQ : Reads enc P w base spare held f.type α Q) : ∃ a, Q ((cs.drop f.offset).take (P.cellsOf f.type)) a := by
  obtain ⟨xs, n, _, rfl, hl, hlen, hfs⟩ := DataW.trod_struct ht h
  have hi : i < xs.length := by
    have := (List.getElem?_eq_some_iff.1 hf).1
    rw [Array.length_toList] at this
    omega
  have h1 := hfs i f (by simpa using hf)
  rw [List.getElem?_eq_getElem hi] at h1
  refine hQ n _ _ h1 ?_
  simp only [DataW.weights, ht] at hw
  exact wE_at _ _ hw i _ _ (by rw [List.getElem?_map, hf]; rfl) (by rw [List.getElem?_map, List.getElem?_eq_getElem hi]; rfl)
theorem reads_len {t : TypeId} {fs : Array Field} (ht : P.underlying t = some (.struct fs)) {fuel : Nat} {cs : List Value} {x : DataW H × List MemPlace} (h : DataW.trod enc P w base spare held fuel t cs = some x) : cs.length = P.cellsOf t := by
  obtain ⟨xs, n, _, rfl, hl, hlen, hfs⟩ := DataW.trod_struct ht h
  exact hl

/-- A slice. -/
def SliceAt (w : World) (sz bytes : Nat) {α : Type} (Q : List Value → α → Prop) (cs : List Value) (l : List α) : Prop :=
  ∃ a cap, cs = [.slice a l.length cap] ∧ l.length * bytes ≤ reachBytes ∧ l.length ≤ maxLen ∧
    ∀ i (h : i < l.length), ∃ b o cs', a = some ⟨b, o, none⟩ ∧ (∀ j, j < sz → w.cell? ⟨b, o + i * sz + j, none⟩ = cs'[j]?) ∧ cs'.length = sz ∧ Q cs' l[i]
theorem reads_slice {t e : TypeId} {sz bytes : Nat} (ht : P.underlying t = some (.slice e)) (hs : P.cellsOf e = sz) (h0 : 0 < sz) (hb : P.bytesOf e = bytes) {α : Type} {Q : List Value → α → Prop} (hQ : Reads enc P w base spare held e α Q) :
    Reads enc P w base spare held t (List α) (SliceAt w sz bytes Q) := by
  intro fuel cs x hx hw
  rcases Deep.open_slice ht hx with ⟨e0, _⟩ | ⟨a', len, cap, m, n, D, Pl, e0, hbb, hle, hm, hmm, hxx, hel⟩
  · exact ⟨[], none, 0, e0, by simp, by simp, fun i hi => by simp at hi⟩
  · have hlm : len ≤ m := by rw [hmm]; split <;> omega
    subst hxx
    simp only [DataW.weights, ht, List.all_cons, List.all_append, Bool.and_eq_true, decide_eq_true_eq] at hw
    obtain ⟨hwl, hwe, _⟩ := hw
    rw [hb] at hwl
    simp only [List.length_map, List.length_range] at hwl
    have key : ∀ i, i < len → ∃ (a : α) (cs' : List Value), (∀ j, j < sz → w.cell? ((a'.add (i * sz)).add j) = cs'[j]?) ∧ cs'.length = sz ∧ Q cs' a := by
      intro i hi
      obtain ⟨cs', q1, q2⟩ := hel i (by omega)
      rw [hs] at q1
      obtain ⟨_, hl, hcell⟩ := World.cells?_some q1
      obtain ⟨a, ha⟩ := hQ _ _ _ q2 (wA_at _ hwe i _ (by simp [hi]))
      exact ⟨a, cs', hcell, hl, ha⟩
    obtain ⟨f, hf⟩ : ∃ f : Nat → Option (α × List Value), ∀ i, i < len → ∃ p, f i = some p ∧ (∀ j, j < sz → w.cell? ((a'.add (i * sz)).add j) = p.2[j]?) ∧ p.2.length = sz ∧ Q p.2 p.1 := by
      classical
      refine ⟨fun i => if h : i < len then some ((key i h).choose, (key i h).choose_spec.choose) else none, fun i hi => ?_⟩
      simp only [dif_pos hi]
      exact ⟨_, rfl, (key i hi).choose_spec.choose_spec⟩
    have hl : ∃ l : List α, l.length = len ∧ ∀ i (h : i < l.length), ∃ p, f i = some p ∧ l[i] = p.1 := by
      clear hel key hwe hwl e0 hx
      have : ∀ k, k ≤ len → ∃ l : List α, l.length = k ∧ ∀ i (h : i < l.length), ∃ p, f i = some p ∧ l[i] = p.1 := by
        intro k
        induction k with
        | zero => intro _; exact ⟨[], rfl, fun i h => by simp at h⟩
        | succ k ih =>
          intro hk
          obtain ⟨l, hl, h⟩ := ih (by omega)
          obtain ⟨p, hp, _⟩ := hf k (by omega)
          refine ⟨l ++ [p.1], by simp [hl], fun i hi => ?_⟩
          by_cases hik : i < l.length
          · obtain ⟨q, hq, e⟩ := h i hik
            exact ⟨q, hq, by rw [List.getElem_append_left hik]; exact e⟩
          · have : i = k := by simp at hi; omega
            subst this
            exact ⟨p, hp, by rw [List.getElem_append_right (by omega)]; simp⟩
      exact this len (Nat.le_refl _)
    obtain ⟨l, hl, hlp⟩ := hl
    have hsp : 0 < len → a'.spot = none := by
      intro hpos
      obtain ⟨p, _, h1, h2, _⟩ := hf 0 hpos
      have h00 := h1 0 h0
      simp only [Nat.zero_mul, Addr.add, if_pos] at h00
      rw [List.getElem?_eq_getElem (by omega)] at h00
      cases hs : a'.spot with
      | none => rfl
      | some q =>
        simp only [World.cell?, hs, Option.isSome_some, if_true] at h00
        split at h00 <;> simp at h00
    refine ⟨l, some a', cap, by rw [hl]; exact e0, ?_, by omega, ?_⟩
    · rw [hl]
      refine Nat.le_trans (Nat.mul_le_mul_right _ ?_) hwl
      omega
    · intro i hi
      obtain ⟨p, hp, e⟩ := hlp i hi
      obtain ⟨p', hp', h1, h2, h3⟩ := hf i (by omega)
      rw [hp] at hp'
      cases hp'
      have hsp := hsp (by omega)
      obtain ⟨b, o, s⟩ := a'
      simp only at hsp
      subst hsp
      refine ⟨b, o, p.2, rfl, fun j hj => ?_, h2, by rw [e]; exact h3⟩
      rw [← h1 j hj]
      congr 1
      unfold Addr.add
      split <;> split <;> simp_all

theorem Reads.open_slice {t : TypeId} {α : Type} {Q : List Value → α → Prop} (hQ : Reads enc P w base spare held t α Q) {v : Value} {d : DataW H} {p : List MemPlace} (h : DataW.Trod enc P w base spare held t v d p) (hw : (d.weights P t).all (· ≤ reachBytes) = true) : ∃ a, Q v.cells.toList a := by
  obtain ⟨fuel, hf⟩ := h
  exact hQ fuel _ _ hf hw
end
end Go.Proofs.Ytlhcojclfgbobaa
