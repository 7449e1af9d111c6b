/- Lemmas that the law's proof stands on, part 21: Read, Tvl. No condition. -/
import Derived.Test.YtmklapbecdhnmaaBaseA0
import Derived.Deep.Slices
import Derived.Lib.SmallJoins
import Derived.OpenShut
import Derived.ProofKit
import Derived.WalkKit
import Derived.Test.YtmklapbecdhnmaaBaseA20
set_option linter.all false
set_option linter.unusedVariables false
set_option linter.unusedSimpArgs false
namespace Go.Proofs.Ytmklapbecdhnmaa
open Go.ChangeShapes Go.WideShapes Go.ChangeAt Go.RowKit
theorem all_le {l : List Nat} {r n : Nat} (h : l.all (· ≤ r) = true) (hn : n ∈ l) : n ≤ r := of_decide_eq_true (List.all_eq_true.1 h n hn)
theorem wE_cons {H : Type} {P : Program} {t : TypeId} {ts : List TypeId} {d : DataW H} {ds : List (DataW H)} {r : Nat} (h : (DataW.weightsEach P (t :: ts) (d :: ds)).all (· ≤ r) = true) :
    (d.weights P t).all (· ≤ r) = true ∧ (DataW.weightsEach P ts ds).all (· ≤ r) = true := by
  simpa [DataW.weightsEach, List.all_append] using h
theorem wE_at {H : Type} {P : Program} {r : Nat} (ts : List TypeId) : ∀ (ds : List (DataW H)), (DataW.weightsEach P ts ds).all (· ≤ r) = true → ∀ (i : Nat) (t : TypeId) (d : DataW H), ts[i]? = some t → ds[i]? = some d → (d.weights P t).all (· ≤ r) = true := by
  induction ts with
  | nil => intro ds _ i t d h1 _; simp at h1
  | cons t0 ts ih =>
    intro ds h i t d h1 h2
    cases ds with
    | nil => simp at h2
    | cons d0 ds =>
      cases i with
      | zero => simp at h1 h2; subst h1 h2; exact (wE_cons h).1
      | succ i => exact ih ds (wE_cons h).2 i t d (by simpa using h1) (by simpa using h2)
theorem wA_at {H : Type} {P : Program} {e : TypeId} {r : Nat} (ds : List (DataW H)) : (DataW.weightsAll P e ds).all (· ≤ r) = true → ∀ (i : Nat) (d : DataW H), ds[i]? = some d → (d.weights P e).all (· ≤ r) = true := by
  induction ds with
  | nil => intro _ i d h2; simp at h2
  | cons d0 ds ih =>
    intro h i d h2
    simp only [DataW.weightsAll, List.all_append, Bool.and_eq_true] at h
    cases i with
    | zero => simp at h2; subst h2; exact h.1
    | succ i => exact ih h.2 i d (by simpa using h2)
section
variable {H : Type} {enc : TypeId × Value → H} {P : Program} {w : World} {base : Nat} {spare : Nat → Bool} {held : Bool}
/-- The cells of a type's value, as they read. -/
def Reads (enc : TypeId × Value → H) (P : Program) (w : World) (base : Nat) (spare : Nat → Bool) (held : Bool) (t : TypeId) (α : Type) (Q : List Value → α → Prop) : Prop :=
  ∀ fuel cs x, DataW.trod enc P w base spare held fuel t cs = some x → (x.1.weights P t).all (· ≤ reachBytes) = true → ∃ a : α, Q cs a
theorem Reads.mono {t : TypeId} {α β : Type} {Q : List Value → α → Prop} {R : List Value → β → Prop} (h : Reads enc P w base spare held t α Q) (hr : ∀ cs a, Q cs a → ∃ b, R cs b) : Reads enc P w base spare held t β R := by
  intro fuel cs x hx hw
  obtain ⟨a, ha⟩ := h fuel cs x hx hw
  exact hr cs a ha
theorem reads_int {t : TypeId} {k : IntKind} (ht : P.underlying t = some (.int k)) : Reads enc P w base spare held t Int (fun cs a => cs = [.int k a] ∧ (Lit.int k a).wf = true) := by
  intro fuel cs x hx _
  obtain ⟨a, e, _, hw⟩ := DataW.trod_int ht hx
  exact ⟨a, e, hw⟩
theorem reads_string {t : TypeId} (ht : P.underlying t = some .string) : Reads enc P w base spare held t ByteArray (fun cs a => cs = [.string a] ∧ a.size ≤ reachBytes) := by
  intro fuel cs x hx hw
  obtain ⟨a, e, r, _⟩ := DataW.trod_string ht hx
  refine ⟨a, e, ?_⟩
  subst r
  exact all_le hw (by simp only [DataW.weights, List.mem_singleton]; exact (Array.length_toList (xs := a.data)).symm)
/-- A struct's field. -/
theorem reads_field {t : TypeId} {fs : Array Field} (ht : P.underlying t = some (.struct fs)) {fuel : Nat} {cs : List Value} {x : DataW H × List MemPlace} (h : DataW.trod enc P w base spare held fuel t cs = some x) (hw : (x.1.weights P t).all (· ≤ reachBytes) = true)
    (i : Nat) {f : Field} (hf : fs.toList[i]? = some f) {α : Type} {Q : List Value → α → Prop} (hQ : Reads enc P w base spare held f.type α Q) : ∃ a, Q ((cs.drop f.offset).take (P.cellsOf f.type)) a := by
  obtain ⟨xs, n, _, rfl, hl, hlen, hfs⟩ := DataW.trod_struct ht h
  have hi : i < xs.length := by
    have := (List.getElem?_eq_some_iff.1 hf).1
    rw [Array.length_toList] at this
    omega
  have h1 := hfs i f (by simpa using hf)
  rw [List.getElem?_eq_getElem hi] at h1
  refine hQ n _ _ h1 ?_
  simp only [DataW.weights, ht] at hw
  exact wE_at _ _ hw i _ _ (by rw [List.getElem?_map, hf]; rfl) (by rw [List.getElem?_map, List.getElem?_eq_getElem hi]; rfl)
theorem reads_len {t : TypeId} {fs : Array Field} (ht : P.underlying t = some (.struct fs)) {fuel : Nat} {cs : List Value} {x : DataW H × List MemPlace} (h : DataW.trod enc P w base spare held fuel t cs = some x) : cs.length = P.cellsOf t := by
  obtain ⟨xs, n, _, rfl, hl, hlen, hfs⟩ := DataW.trod_struct ht h
  exact hl
/-- A slice. -/
def SliceAt (w : World) (sz bytes : Nat) {α : Type} (Q : List Value → α → Prop) (cs : List Value) (l : List α) : Prop :=
  ∃ a cap, cs = [.slice a l.length cap] ∧ l.length * bytes ≤ reachBytes ∧ l.length ≤ maxLen ∧
    ∀ i (h : i < l.length), ∃ b o cs', a = some ⟨b, o, none⟩ ∧ (∀ j, j < sz → w.cell? ⟨b, o + i * sz + j, none⟩ = cs'[j]?) ∧ cs'.length = sz ∧ Q cs' l[i]
theorem reads_slice {t e : TypeId} {sz bytes : Nat} (ht : P.underlying t = some (.slice e)) (hs : P.cellsOf e = sz) (h0 : 0 < sz) (hb : P.bytesOf e = bytes) {α : Type} {Q : List Value → α → Prop} (hQ : Reads enc P w base spare held e α Q) :
    Reads enc P w base spare held t (List α) (SliceAt w sz bytes Q) := by
  intro fuel cs x hx hw
  rcases Deep.open_slice ht hx with ⟨e0, _⟩ | ⟨a', len, cap, m, n, D, Pl, e0, hbb, hle, hm, hmm, hxx, hel⟩
  · exact ⟨[], none, 0, e0, by simp, by simp, fun i hi => by simp at hi⟩
  · have hlm : len ≤ m := by rw [hmm]; split <;> omega
    subst hxx
    simp only [DataW.weights, ht, List.all_cons, List.all_append, Bool.and_eq_true, decide_eq_true_eq] at hw
    obtain ⟨hwl, hwe, _⟩ := hw
    rw [hb] at hwl
    simp only [List.length_map, List.length_range] at hwl
    have key : ∀ i, i < len → ∃ (a : α) (cs' : List Value), (∀ j, j < sz → w.cell? ((a'.add (i * sz)).add j) = cs'[j]?) ∧ cs'.length = sz ∧ Q cs' a := by
      intro i hi
      obtain ⟨cs', q1, q2⟩ := hel i (by omega)
      rw [hs] at q1
      obtain ⟨_, hl, hcell⟩ := World.cells?_some q1
      obtain ⟨a, ha⟩ := hQ _ _ _ q2 (wA_at _ hwe i _ (by simp [hi]))
      exact ⟨a, cs', hcell, hl, ha⟩
    obtain ⟨f, hf⟩ : ∃ f : Nat → Option (α × List Value), ∀ i, i < len → ∃ p, f i = some p ∧ (∀ j, j < sz → w.cell? ((a'.add (i * sz)).add j) = p.2[j]?) ∧ p.2.length = sz ∧ Q p.2 p.1 := by
      classical
      refine ⟨fun i => if h : i < len then some ((key i h).choose, (key i h).choose_spec.choose) else none, fun i hi => ?_⟩
      simp only [dif_pos hi]
      exact ⟨_, rfl, (key i hi).choose_spec.choose_spec⟩
    have hl : ∃ l : List α, l.length = len ∧ ∀ i (h : i < l.length), ∃ p, f i = some p ∧ l[i] = p.1 := by
      clear hel key hwe hwl e0 hx
      have : ∀ k, k ≤ len → ∃ l : List α, l.length = k ∧ ∀ i (h : i < l.length), ∃ p, f i = some p ∧ l[i] = p.1 := by
        intro k
        induction k with
        | zero => intro _; exact ⟨[], rfl, fun i h => by simp at h⟩
        | succ k ih =>
          intro hk
          obtain ⟨l, hl, h⟩ := ih (by omega)
          obtain ⟨p, hp, _⟩ := hf k (by omega)
          refine ⟨l ++ [p.1], by simp [hl], fun i hi => ?_⟩
          by_cases hik : i < l.length
          · obtain ⟨q, hq, e⟩ := h i hik
            exact ⟨q, hq, by rw [List.getElem_append_left hik]; exact e⟩
          · have : i = k := by simp at hi; omega
            subst this
            exact ⟨p, hp, by rw [List.getElem_append_right (by omega)]; simp⟩
      exact this len (Nat.le_refl _)
    obtain ⟨l, hl, hlp⟩ := hl
    have hsp : 0 < len → a'.spot = none := by
      intro hpos
      obtain ⟨p, _, h1, h2, _⟩ := hf 0 hpos
      have h00 := h1 0 h0
      simp only [Nat.zero_mul, Addr.add, if_pos] at h00
      rw [List.getElem?_eq_getElem (by omega)] at h00
      cases hs : a'.spot with
      | none => rfl
      | some q =>
        simp only [World.cell?, hs, Option.isSome_some, if_true] at h00
        split at h00 <;> simp at h00
    refine ⟨l, some a', cap, by rw [hl]; exact e0, ?_, by omega, ?_⟩
    · rw [hl]
      refine Nat.le_trans (Nat.mul_le_mul_right _ ?_) hwl
      omega
    · intro i hi
      obtain ⟨p, hp, e⟩ := hlp i hi
      obtain ⟨p', hp', h1, h2, h3⟩ := hf i (by omega)
      rw [hp] at hp'
      cases hp'
      have hsp := hsp (by omega)
      obtain ⟨b, o, s⟩ := a'
      simp only at hsp
      subst hsp
      refine ⟨b, o, p.2, rfl, fun j hj => ?_, h2, by rw [e]; exact h3⟩
      rw [← h1 j hj]
      congr 1
      unfold Addr.add
      split <;> split <;> simp_all
theorem Reads.open_slice {t : TypeId} {α : Type} {Q : List Value → α → Prop} (hQ : Reads enc P w base spare held t α Q) {v : Value} {d : DataW H} {p : List MemPlace} (h : DataW.Trod enc P w base spare held t v d p) (hw : (d.weights P t).all (· ≤ reachBytes) = true) : ∃ a, Q v.cells.toList a := by
  obtain ⟨fuel, hf⟩ := h
  exact hQ fuel _ _ hf hw
end
end Go.Proofs.Ytmklapbecdhnmaa
namespace Go.Proofs.Ytmklapbecdhnmaa
open Go.ChangeShapes Go.WideShapes Go.ChangeAt Go.RowKit
section
variable {H : Type} {enc : TypeId × Value → H} {P : Program} {w : World} {base : Nat} {spare : Nat → Bool} {held : Bool}
theorem reads_slice2 {t e : TypeId} {sz bytes : Nat} (ht : P.underlying t = some (.slice e)) (hs : P.cellsOf e = sz) (h0 : 0 < sz) (hb : P.bytesOf e = bytes) {α : Type} {Q : List Value → α → Prop} (hQ : Reads enc P w base spare held e α Q) :
    Reads enc P w base spare held t (List α) (fun cs l => SliceAt w sz bytes Q cs l ∧ ∀ a n c, cs = [.slice a n c] → n ≤ c ∧ c ≤ maxLen) := by
  intro fuel cs x hx hw
  obtain ⟨l, hl⟩ := reads_slice ht hs h0 hb hQ fuel cs x hx hw
  refine ⟨l, hl, fun a n c e => ?_⟩
  rcases Deep.open_slice ht hx with ⟨e0, _⟩ | ⟨a', len, cap, m, n', D, Pl, e0, hbb, hle, hm, _⟩
  · rw [e] at e0
    simp only [List.cons.injEq, Value.slice.injEq, and_true] at e0
    unfold maxLen
    omega
  · rw [e] at e0
    simp only [List.cons.injEq, Value.slice.injEq, and_true] at e0
    omega
end
section
variable {H : Type} {enc : TypeId × Value → H} {w : World} {base : Nat} {spare : Nat → Bool} {held : Bool}
/-- Lines that can be read. -/
def LinesIn (w : World) (a : Option Addr) (c : Nat) (ls : List ByteArray) : Prop := Rds (fun q => q < w.heap.size) w (.slice a ls.length c) ls ∧ ∀ s ∈ ls, s.size ≤ 140737488351232
theorem reads_lines : Reads enc Try.prog w base spare held 22 (List ByteArray) (fun cs ls => ∃ a c, cs = [.slice a ls.length c] ∧ LinesIn w a c ls) := by
  refine (reads_slice2 (sz := 1) (bytes := 16) Try.underlying22 (by kernel_rfl) (by decide) (by kernel_rfl) (reads_string Try.underlying9)).mono ?_
  rintro cs ls ⟨⟨a, cap, rfl, hb, hm, hel⟩, hc⟩
  obtain ⟨h1, h2⟩ := hc _ _ _ rfl
  refine ⟨ls, a, cap, rfl, Rds.mono (F := fun _ => True) ⟨a, cap, rfl, h1, h2, fun i hi => ?_⟩ (fun q hq _ => hq), fun s hs => ?_⟩
  · obtain ⟨b, o, cs', rfl, h3, _, hQ, _⟩ := hel i hi
    refine ⟨b, o, rfl, trivial, ?_⟩
    have := h3 0 (by decide)
    rw [hQ] at this
    simpa using this
  · obtain ⟨i, hi, rfl⟩ := List.mem_iff_getElem.1 hs
    obtain ⟨b, o, cs', _, _, _, _, h⟩ := hel i hi
    exact h
/-- A call. -/
structure OpD where
  kind : Int
  i : Int
  n : Int
  s : ByteArray
  l : List ByteArray
def OpD.ok (o : OpD) : Prop := (0 ≤ o.kind ∧ o.kind ≤ 255) ∧ (-9223372036854775808 ≤ o.i ∧ o.i ≤ 9223372036854775807) ∧ (-9223372036854775808 ≤ o.n ∧ o.n ≤ 9223372036854775807) ∧ o.s.size ≤ 140737488351232 ∧ ∀ s ∈ o.l, s.size ≤ 140737488351232
theorem reads_op : Reads enc Try.prog w base spare held 50 OpD (fun cs o => ∃ v, cs = [.int .u8 o.kind, .int .i64 o.i, .int .i64 o.n, .string o.s, v] ∧ Rds (fun q => q < w.heap.size) w v o.l ∧ o.ok) := by
  intro fuel cs x hx hw
  have hl := reads_len Try.underlying50 hx
  obtain ⟨k, h0⟩ := reads_field Try.underlying50 hx hw 0 rfl (reads_int Try.underlying5)
  obtain ⟨i, h1⟩ := reads_field Try.underlying50 hx hw 1 rfl (reads_int Try.underlying3)
  obtain ⟨n, h2⟩ := reads_field Try.underlying50 hx hw 2 rfl (reads_int Try.underlying3)
  obtain ⟨s, h3⟩ := reads_field Try.underlying50 hx hw 3 rfl (reads_string Try.underlying9)
  obtain ⟨l, h4⟩ := reads_field Try.underlying50 hx hw 4 rfl reads_lines
  have c5 : Try.prog.cellsOf 50 = 5 := by kernel_rfl
  have c1 : Try.prog.cellsOf 5 = 1 := by kernel_rfl
  have c2 : Try.prog.cellsOf 3 = 1 := by kernel_rfl
  have c3 : Try.prog.cellsOf 9 = 1 := by kernel_rfl
  have c4 : Try.prog.cellsOf 22 = 1 := by kernel_rfl
  rw [c5] at hl
  dsimp only at h0 h1 h2 h3 h4
  rw [c1] at h0
  rw [c2] at h1 h2
  rw [c3] at h3
  rw [c4] at h4
  match cs, hl with
  | [p, q, r, t, u], _ =>
    obtain ⟨e0, w0⟩ := h0
    obtain ⟨e1, w1⟩ := h1
    obtain ⟨e2, w2⟩ := h2
    obtain ⟨e3, w3⟩ := h3
    obtain ⟨a, c, e4, hr, hs⟩ := h4
    simp at e0 e1 e2 e3 e4
    subst e0 e1 e2 e3 e4
    refine ⟨⟨k, i, n, s, l⟩, _, rfl, hr, ?_, ?_, ?_, w3, hs⟩
    · simpa [Lit.wf, IntKind.min, IntKind.max, IntKind.signed, IntKind.bits] using w0
    · simpa [Lit.wf, IntKind.min, IntKind.max, IntKind.signed, IntKind.bits] using w1
    · simpa [Lit.wf, IntKind.min, IntKind.max, IntKind.signed, IntKind.bits] using w2
/-- Calls that can be read. -/
def OpsIn (w : World) (a : Option Addr) (ts : List OpD) : Prop :=
  ts.length ≤ 2199023255552 ∧ (∀ t ∈ ts, t.ok) ∧ ∀ i (h : i < ts.length), ∃ b o v, a = some ⟨b, o, none⟩ ∧ b < w.heap.size ∧ w.cell? ⟨b, o + i * 5, none⟩ = some (.int .u8 ts[i].kind) ∧ w.cell? ⟨b, o + i * 5 + 1, none⟩ = some (.int .i64 ts[i].i) ∧ w.cell? ⟨b, o + i * 5 + 2, none⟩ = some (.int .i64 ts[i].n) ∧
    w.cell? ⟨b, o + i * 5 + 3, none⟩ = some (.string ts[i].s) ∧ w.cell? ⟨b, o + i * 5 + 4, none⟩ = some v ∧ Rds (fun q => q < w.heap.size) w v ts[i].l
theorem reads_ops : Reads enc Try.prog w base spare held 44 (List OpD) (fun cs ts => ∃ a cap, cs = [.slice a ts.length cap] ∧ OpsIn w a ts) := by
  refine (reads_slice (sz := 5) (bytes := 64) Try.underlying44 (by kernel_rfl) (by decide) (by kernel_rfl) reads_op).mono ?_
  rintro cs ts ⟨a, cap, rfl, hb, hm, hel⟩
  refine ⟨ts, a, cap, rfl, by unfold reachBytes at hb; omega, fun t ht => ?_, fun i hi => ?_⟩
  · obtain ⟨i, hi, rfl⟩ := List.mem_iff_getElem.1 ht
    obtain ⟨b, o, cs', e, h1, _, v, rfl, hr, hok⟩ := hel i hi
    exact hok
  · obtain ⟨b, o, cs', e, h1, _, v, rfl, hr, hok⟩ := hel i hi
    have k0 := h1 0 (by decide)
    exact ⟨b, o, v, e, World.block_lt_of_cell? w ⟨b, o + i * 5 + 0, none⟩ k0, by simpa using k0, by simpa using h1 1 (by decide), by simpa using h1 2 (by decide), by simpa using h1 3 (by decide), by simpa using h1 4 (by decide), hr⟩
/-- Numbers below 65536 that can be read. -/
def PicksIn (w : World) (a : Option Addr) (ps : List Int) : Prop :=
  ps.length ≤ 200000000000000 ∧ (∀ p ∈ ps, 0 ≤ p ∧ p ≤ 65535) ∧ ∀ i (h : i < ps.length), ∃ b o, a = some ⟨b, o, none⟩ ∧ w.cell? ⟨b, o + i, none⟩ = some (.int .u16 ps[i])
theorem reads_picks : Reads enc Try.prog w base spare held 39 (List Int) (fun cs ps => ∃ a cap, cs = [.slice a ps.length cap] ∧ PicksIn w a ps) := by
  refine (reads_slice (sz := 1) (bytes := 2) Try.underlying39 (by kernel_rfl) (by decide) (by kernel_rfl) (reads_int Try.underlying41)).mono ?_
  rintro cs ps ⟨a, cap, rfl, hb, hm, hel⟩
  refine ⟨ps, a, cap, rfl, by unfold reachBytes at hb; omega, fun p hp => ?_, fun i hi => ?_⟩
  · obtain ⟨i, hi, rfl⟩ := List.mem_iff_getElem.1 hp
    obtain ⟨b, o, cs', e, h1, _, rfl, hw⟩ := hel i hi
    simpa [Lit.wf, IntKind.min, IntKind.max, IntKind.signed, IntKind.bits] using hw
  · obtain ⟨b, o, cs', e, h1, _, rfl, hw⟩ := hel i hi
    exact ⟨b, o, e, by simpa using h1 0 (by decide)⟩
end
theorem LinesIn.below {w w' : World} {a : Option Addr} {c : Nat} {ls : List ByteArray} (h : LinesIn w a c ls) (hu : Below w.heap.size w w') : Rds (fun q => q < w.heap.size) w' (.slice a ls.length c) ls :=
  h.1.upd (Upd.of_below (F := fun q => w.heap.size ≤ q) hu (fun _ _ e => e)) (fun q h1 h2 => by omega)
end Go.Proofs.Ytmklapbecdhnmaa
