/- Lemmas that the law's proof stands on, part 42: Stp, Bnd. No condition. -/
import Derived.Test.YtigbfgmgdfnhcaaBaseA0
import Derived.Test.YtigbfgmgdfnhcaaBaseA34
import Derived.Test.YtigbfgmgdfnhcaaBaseA35
set_option linter.all false
set_option linter.unusedVariables false
set_option linter.unusedSimpArgs false
namespace Go.Proofs.Ytigbfgmgdfnhcaa
open Go.RowKit
/-- A try that began at a place. -/
structure TGe (a : Nat) (t : TryD) : Prop where
  pos : a ≤ t.pos
  slot : ∀ k, t.slots.getD k 0 = -1 ∨ (a : Int) ≤ t.slots.getD k 0 ∨ t.slots.length ≤ k
theorem backF_ge {fold : Bool} {l : List UInt8} {t : TryD} {x q : Nat} (h : backF fold l t x = some q) : t.pos ≤ q := by
  unfold backF at h
  repeat' split at h
  all_goals first | cases h; done | (injection h with h; omega)
theorem stepF_ge {fold : Bool} {l : List UInt8} {a : Nat} {t t2 : TryD} {i : InstD} {ts ts2 : List TryD} (ht : TGe a t) (hs : ∀ t, t ∈ ts → TGe a t) (h : stepF fold l t i ts = some (t2, ts2)) : TGe a t2 ∧ ∀ t, t ∈ ts2 → TGe a t := by
  have hb : ∀ (k q : Nat), a ≤ q → TGe a { t with pc := k, pos := q } := fun k q hq => ⟨hq, ht.slot⟩
  have h0 := ht.pos
  unfold stepF at h
  simp only [] at h
  split at h
  · split at h
    · cases h
    · simp only [Option.some.injEq, Prod.mk.injEq] at h
      obtain ⟨rfl, rfl⟩ := h
      exact ⟨hb (t.pc + 1) (t.pos + 1) (by omega), hs⟩
  · split at h
    · simp only [Option.some.injEq, Prod.mk.injEq] at h
      obtain ⟨rfl, rfl⟩ := h
      refine ⟨hb i.x.toNat t.pos h0, fun b hb' => ?_⟩
      rcases List.mem_append.1 hb' with hb' | hb'
      · exact hs b hb'
      · simp only [List.mem_singleton] at hb'; subst hb'; exact hb i.y.toNat t.pos h0
    · split at h
      · simp only [Option.some.injEq, Prod.mk.injEq] at h
        obtain ⟨rfl, rfl⟩ := h
        exact ⟨hb i.x.toNat t.pos h0, hs⟩
      · split at h
        · simp only [Option.some.injEq, Prod.mk.injEq] at h
          obtain ⟨rfl, rfl⟩ := h
          refine ⟨⟨h0, fun k => ?_⟩, hs⟩
          show (t.slots.set i.x.toNat (t.pos : Int)).getD k 0 = -1 ∨ (a : Int) ≤ (t.slots.set i.x.toNat (t.pos : Int)).getD k 0 ∨ (t.slots.set i.x.toNat (t.pos : Int)).length ≤ k
          rw [getD_set, List.length_set]
          split
          · right; left; omega
          · exact ht.slot k
        · split at h
          · split at h
            · cases h
            · rename_i q hq
              simp only [Option.some.injEq, Prod.mk.injEq] at h
              obtain ⟨rfl, rfl⟩ := h
              have := backF_ge hq
              exact ⟨hb (t.pc + 1) q (by simp only [] at this; omega), hs⟩
          · split at h
            · simp only [Option.some.injEq, Prod.mk.injEq] at h
              obtain ⟨rfl, rfl⟩ := h
              exact ⟨⟨h0, ht.slot⟩, hs⟩
            · split at h
              · split at h
                · cases h
                · simp only [Option.some.injEq, Prod.mk.injEq] at h
                  obtain ⟨rfl, rfl⟩ := h
                  exact ⟨⟨h0, ht.slot⟩, hs⟩
              · split at h
                · simp only [Option.some.injEq, Prod.mk.injEq] at h
                  obtain ⟨rfl, rfl⟩ := h
                  exact ⟨⟨h0, ht.slot⟩, hs⟩
                · cases h
/-- What a run that finds comes from. -/
theorem runF_try (p : ProgD) (l : List UInt8) (a : Nat) (hp : Sound p) : ∀ (f st : Nat) (c : Option TryD) (ts : List TryD) (R : ResD), (∀ t, c = some t → TOK p l.length t ∧ TGe a t) → (∀ t, t ∈ ts → TOK p l.length t ∧ TGe a t) → runF p l a f st c ts = some R →
    (R.is = false ∧ R.m = .zero) ∨ (R.is = true ∧ ∃ t, TOK p l.length t ∧ TGe a t ∧ R.m = matchF t a)
  | 0, st, c, ts, R, _, _, h => by unfold runF at h; cases h
  | f + 1, st, none, ts, R, hc, hs, h => by
    unfold runF at h
    rcases List.eq_nil_or_concat ts with rfl | ⟨L, b, rfl⟩
    · simp only [List.getLast?_nil, Option.some.injEq] at h
      subst h; exact .inl ⟨rfl, rfl⟩
    · simp only [List.concat_eq_append, List.getLast?_append, List.getLast?_singleton, Option.or_some, Option.or, List.dropLast_concat] at h
      exact runF_try p l a hp f st (some b) L R (fun t e => by injection e with e; subst e; exact hs b (by simp)) (fun t ht => hs t (by simp [ht])) h
  | f + 1, st, some t, ts, R, hc, hs, h => by
    unfold runF at h
    obtain ⟨hk, hg⟩ := hc t rfl
    cases hcode : p.code[t.pc]? with
    | none => rw [hcode] at h; exact runF_try p l a hp f st none ts R (fun t e => by cases e) hs h
    | some i =>
      rw [hcode] at h
      cases st with
      | zero => simp only [Option.some.injEq] at h; subst h; exact .inl ⟨rfl, rfl⟩
      | succ s =>
        simp only [] at h
        split at h
        · simp only [Option.some.injEq] at h; subst h; exact .inr ⟨rfl, t, hk, hg, rfl⟩
        · cases hq : stepF p.fold l t i ts with
          | none => rw [hq] at h; exact runF_try p l a hp f s none ts R (fun t e => by cases e) hs h
          | some q =>
            obtain ⟨t2, ts2⟩ := q
            rw [hq] at h
            have hlt : t.pc < p.code.length := (List.getElem?_eq_some_iff.1 hcode).1
            obtain ⟨k1, k2, _⟩ := stepF_ok (hp.fine i (List.mem_of_getElem? hcode)) hk hlt (fun t ht => (hs t ht).1) hq
            obtain ⟨g1, g2⟩ := stepF_ge hg (fun t ht => (hs t ht).2) hq
            exact runF_try p l a hp f s (some t2) ts2 R (fun t e => by injection e with e; subst e; exact ⟨k1, g1⟩) (fun t ht => ⟨k2 t ht, g2 t ht⟩) h
theorem firstT_ge (a : Nat) (r : Int) : TGe a (firstT a r) := by
  refine ⟨Nat.le_refl _, fun k => ?_⟩
  show ((a : Int) :: List.replicate 21 (-1)).getD k 0 = -1 ∨ (a : Int) ≤ ((a : Int) :: List.replicate 21 (-1)).getD k 0 ∨ ((a : Int) :: List.replicate 21 (-1)).length ≤ k
  cases k with
  | zero => right; left; simp
  | succ k =>
    rw [List.getD_cons_succ, List.getD_eq_getElem?_getD, List.getElem?_replicate]
    split
    · left; rfl
    · right; right; simp; omega
theorem atF_try {p : ProgD} {l : List UInt8} {a : Nat} {st : Int} {R : ResD} (h : atF p l a st = some R) (he : R.err = 0) : (R.is = false ∧ R.m = .zero) ∨ (R.is = true ∧ ∃ t, TOK p l.length t ∧ TGe a t ∧ R.m = matchF t a) := by
  obtain ⟨h1, h2, h3, h4, h5, h6⟩ := (atF_left h).2.2.2 he
  unfold atF at h
  rw [if_neg (by rintro (g | g | g | g | g) <;> first | exact absurd (h1.symm.trans g) (by decide) | omega)] at h
  have hp := soundB_ok h1
  rw [Int.toNat_natCast] at h
  exact runF_try p l a hp (3 * st.toNat + 4) st.toNat none [firstT a p.rounds] R (fun t e => by cases e) (fun t ht => by simp only [List.mem_singleton] at ht; subst ht; exact ⟨first_ok hp (by omega), firstT_ge _ _⟩) h
end Go.Proofs.Ytigbfgmgdfnhcaa
namespace Go.Proofs.Ytigbfgmgdfnhcaa
open Go.RowKit
/-- Where a match lies that began at a place or behind it. -/
structure Bnd (n : Nat) (a : Int) (m : MatchD) : Prop where
  lo : a ≤ m.from_
  up : m.from_ ≤ m.to_
  hi : m.to_ ≤ n
  b0 : m.beg.getD 0 0 = m.from_
  e0 : m.end_.getD 0 0 = m.to_
  grp : ∀ k, k < 10 → (m.beg.getD k 0 = -1 ∧ m.end_.getD k 0 = -1) ∨ (0 ≤ m.beg.getD k 0 ∧ m.beg.getD k 0 ≤ m.end_.getD k 0 ∧ m.end_.getD k 0 ≤ n)
theorem grp_at (g : Nat → Int) (f : Int) (k : Nat) (h : k < 9) : (f :: (List.range 9).map (fun k => g (k + 1))).getD (k + 1) 0 = g (k + 1) := by
  rw [List.getD_cons_succ, List.getD_eq_getElem?_getD, List.getElem?_map, List.getElem?_range h]
  rfl
theorem matchF_bnd {n a : Nat} {t : TryD} (ho : TryOK n t) (hg : TGe a t) (ha : a ≤ n) : Bnd n a (matchF t a) := by
  have h20 := ho.slot 20
  have h21 := ho.slot 21
  have hp := ho.pos
  have hq := hg.pos
  have f20 : (a : Int) ≤ fromG t a ∧ fromG t a ≤ n := by
    unfold fromG
    rcases hg.slot 20 with h | h | h
    · rw [h]; simp; omega
    · split <;> omega
    · rw [ho.sl] at h; omega
  have f21 : toG t ≤ n := by unfold toG; split <;> omega
  rw [matchF_eq]
  refine ⟨f20.1, by show fromG t a ≤ max _ _; omega, by show max _ _ ≤ _; omega, rfl, rfl, fun k hk => ?_⟩
  cases k with
  | zero => right; show 0 ≤ fromG t a ∧ fromG t a ≤ max (fromG t a) (toG t) ∧ max (fromG t a) (toG t) ≤ n; omega
  | succ k =>
    rw [grp_at _ _ k (by omega), grp_at _ _ k (by omega)]
    unfold begG endG
    cases hgd : goodG t (k + 1)
    · left; simp
    · right
      unfold goodG at hgd
      simp only [Bool.and_eq_true, decide_eq_true_eq] at hgd
      have := ho.slot (2 * (k + 1) + 1)
      simp only [if_true]
      exact ⟨hgd.1, hgd.2, this.2⟩
theorem Bnd.low {n : Nat} {a b : Int} {m : MatchD} (h : Bnd n a m) (hb : b ≤ a) : Bnd n b m := ⟨by have := h.lo; omega, h.up, h.hi, h.b0, h.e0, h.grp⟩
theorem runF_bad0 (p : ProgD) (l : List UInt8) (a : Nat) : ∀ (f st : Nat) (c : Option TryD) (ts : List TryD) (R : ResD), runF p l a f st c ts = some R → R.err ≠ 0 → R.is = false ∧ R.m = .zero ∧ R.left = 0
  | 0, st, c, ts, R, h, _ => by unfold runF at h; cases h
  | f + 1, st, none, ts, R, h, he => by
    unfold runF at h
    split at h
    · injection h with h; subst h; exact absurd rfl he
    · exact runF_bad0 p l a f st _ _ R h he
  | f + 1, st, some t, ts, R, h, he => by
    unfold runF at h
    split at h
    · exact runF_bad0 p l a f st _ _ R h he
    · split at h
      · injection h with h; subst h; exact ⟨rfl, rfl, rfl⟩
      · split at h
        · injection h with h; subst h; exact absurd rfl he
        · split at h
          · exact runF_bad0 p l a f _ _ _ R h he
          · exact runF_bad0 p l a f _ _ _ R h he
theorem atF_bad0 {p : ProgD} {l : List UInt8} {a st : Int} {R : ResD} (h : atF p l a st = some R) (he : R.err ≠ 0) : R.is = false ∧ R.m = .zero ∧ R.left = 0 := by
  unfold atF at h
  split at h
  · injection h with h; subst h; exact ⟨rfl, rfl, rfl⟩
  · exact runF_bad0 _ _ _ _ _ _ _ _ h he
/-- What From answers. -/
theorem fromF_out {p : ProgD} {l : List UInt8} {f : Nat} {a st : Int} {R : ResD} (h : fromF p l f a st = some R) (h0 : 0 ≤ a) (hst : st ≤ 5000) (hs0 : 0 ≤ st) : (R.is = false ∧ R.m = .zero ∧ 0 ≤ R.left ∧ R.left ≤ st) ∨ (R.is = true ∧ R.err = 0 ∧ Bnd l.length a R.m ∧ 0 ≤ R.left ∧ R.left ≤ st) := by
  induction f generalizing a st with
  | zero => unfold fromF at h; cases h
  | succ f ih =>
    unfold fromF at h
    obtain ⟨r, hr⟩ := atF_some p l a st
    rw [hr] at h
    simp only [] at h
    have hl := atF_left hr
    by_cases hs : r.err ≠ 0 ∨ r.is = true ∨ a = l.length
    · rw [if_pos hs] at h
      injection h with h
      subst h
      by_cases he : r.err = 0
      · have hb := hl.2.2.2 he
        obtain ⟨n, rfl⟩ : ∃ n : Nat, a = n := ⟨a.toNat, by omega⟩
        rcases atF_try hr he with ⟨g1, g2⟩ | ⟨g1, t, g2, g3, g4⟩
        · exact .inl ⟨g1, g2, by omega, by omega⟩
        · refine .inr ⟨g1, he, ?_, by omega, by omega⟩
          rw [g4]; exact matchF_bnd g2.ok g3 (by omega)
      · have := atF_bad0 hr he
        exact .inl ⟨this.1, this.2.1, by rw [this.2.2]; omega, by rw [this.2.2]; omega⟩
    · rw [if_neg hs] at h
      have he : r.err = 0 := by omega
      have hb := hl.2.2.2 he
      rcases ih h (by omega) (by omega) (by omega) with ⟨g1, g2, g3, g4⟩ | ⟨g1, g2, g3, g4, g5⟩
      · exact .inl ⟨g1, g2, g3, by omega⟩
      · exact .inr ⟨g1, g2, g3.low (by omega), g4, by omega⟩
end Go.Proofs.Ytigbfgmgdfnhcaa
