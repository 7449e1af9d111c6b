/- Lemmas that the law's proof stands on, part 37: Run, AtP. No condition. -/
import Derived.Test.YtigbfgmgdfnhcaaBaseA0
import Derived.Test.YtigbfgmgdfnhcaaBaseA35
import Derived.Test.YtigbfgmgdfnhcaaBaseA36
set_option linter.all false
set_option linter.unusedVariables false
set_option linter.unusedSimpArgs false
namespace Go.Proofs.Ytigbfgmgdfnhcaa
open Go.RowKit
def Apart (a b : Value) : Prop := ∀ g, a.ownBlock = some g → b.ownBlock ≠ some g
theorem own_ne {w : World} {B1 B2 s1 s2 n1 n2 : Nat} {e1 e2 : TypeId} {v1 v2 : Value} {x1 x2 : List Value} (h1 : w.ownsRow B1 e1 s1 v1 n1 x1) (h2 : w.ownsRow B2 e2 s2 v2 n2 x2) (he : e1 ≠ e2) : Apart v1 v2 := by
  intro g g1 g2
  rcases h1.2 with ⟨rfl, _⟩ | ⟨a, _, _, rfl, _, hb, _⟩
  · cases g1
  · rcases h2.2 with ⟨rfl, _⟩ | ⟨b, _, _, rfl, _, hb2, _⟩
    · cases g2
    · simp only [Value.ownBlock, Option.some.injEq] at g1 g2
      subst g1 g2
      rw [hb] at hb2
      simp only [Option.some.injEq, Obj.cells.injEq] at hb2
      exact he hb2.2.1
theorem own_ne_blk {w : World} {B s n b : Nat} {e T : TypeId} {v : Value} {x : List Value} {C : Array Value} (h1 : w.ownsRow B e s v n x) (hb : w.heap[b]? = some (.cells C T (0, 0))) (he : e ≠ T) : ∀ g, v.ownBlock = some g → g ≠ b := by
  intro g g1 e1
  rcases h1.2 with ⟨rfl, _⟩ | ⟨a, _, _, rfl, _, hb2, _⟩
  · cases g1
  · simp only [Value.ownBlock, Option.some.injEq] at g1
    rw [g1, e1, hb] at hb2
    simp only [Option.some.injEq, Obj.cells.injEq] at hb2
    exact he hb2.2.1.symm
/-- The tries that wait. -/
structure Eng (w : World) (B : Nat) (TT : TypeId) (p : ProgD) (n : Nat) (tv : Value) (ts : List TryD) (vs : List Value) : Prop where
  own : w.ownsRow B TT 25 tv ts.length (triesC ts vs)
  len : ts.length = vs.length
  rds : ∀ i (h1 : i < ts.length) (h2 : i < vs.length), RdsAt w B vs[i] ts[i].rounds
  ok : ∀ t, t ∈ ts → TOK p n t
  sep : vs.Pairwise Apart
/-- And the one that is tried. -/
structure Cur (w : World) (B bT : Nat) (TT : TypeId) (p : ProgD) (n : Nat) (tv : Value) (t : TryD) (rv : Value) (ts : List TryD) (vs : List Value) : Prop where
  eng : Eng w B TT p n tv ts vs
  blk : w.heap[bT]? = some (.cells (tryC t rv) TT (0, 0))
  bse : B ≤ bT
  ne : ∀ g, tv.ownBlock = some g → g ≠ bT
  rd : RdsAt w B rv t.rounds
  ok : TOK p n t
  sep : ∀ v, v ∈ vs → Apart rv v
section
variable {w w' : World} {B bT : Nat} {TT : TypeId} {p : ProgD} {n : Nat} {tv : Value} {t : TryD} {rv : Value} {ts : List TryD} {vs : List Value}
theorem Eng.rdv (h : Eng w B TT p n tv ts vs) {v : Value} (hv : v ∈ vs) : ∃ l, RdsAt w B v l := by
  obtain ⟨i, hi, rfl⟩ := List.mem_iff_getElem.1 hv
  exact ⟨_, h.rds i (by rw [h.len]; exact hi) hi⟩
theorem Eng.upd {F : Nat → Prop} (h : Eng w B TT p n tv ts vs) (hu : Upd F w w') (h1 : ∀ g, tv.ownBlock = some g → ¬ F g) (h2 : ∀ v, v ∈ vs → ∀ g, v.ownBlock = some g → ¬ F g) : Eng w' B TT p n tv ts vs :=
  ⟨ownsRow_upd h.own hu h1, h.len, fun i g1 g2 => ownsRow_upd (h.rds i g1 g2) hu (h2 _ (List.getElem_mem g2)), h.ok, h.sep⟩
theorem Eng.newer (h : Eng w B TT p n tv ts vs) (hu : Upd (fun k => w.heap.size ≤ k) w w') : Eng w' B TT p n tv ts vs :=
  h.upd hu (fun g hg => by have := (h.own.lt g hg).2; omega) (fun v hv g hg => by obtain ⟨l, hl⟩ := h.rdv hv; have := (hl.lt g hg).2; omega)
theorem Cur.newer (h : Cur w B bT TT p n tv t rv ts vs) (hu : Upd (fun k => w.heap.size ≤ k) w w') : Cur w' B bT TT p n tv t rv ts vs :=
  ⟨h.eng.newer hu, hu.heap h.blk (by have := heap_lt h.blk; omega), h.bse, h.ne, ownsRow_upd h.rd hu (fun g hg => by have := (h.rd.lt g hg).2; omega), h.ok, h.sep⟩
theorem Cur.vne (h : Cur w B bT TT p n tv t rv ts vs) (hT : TT ≠ 3) : ∀ v, v ∈ vs → ∀ g, v.ownBlock = some g → g ≠ bT := fun v hv => by
  obtain ⟨l, hl⟩ := h.eng.rdv hv
  exact own_ne_blk hl h.blk (Ne.symm hT)
/-- The try's own block turns alone. -/
theorem Cur.put (h : Cur w B bT TT p n tv t rv ts vs) (hT : TT ≠ 3) (hu : Upd (fun k => k = bT) w w') {t2 : TryD} (hk : w'.heap[bT]? = some (.cells (tryC t2 rv) TT (0, 0))) (hr : t2.rounds = t.rounds) (ho : TOK p n t2) : Cur w' B bT TT p n tv t2 rv ts vs :=
  ⟨h.eng.upd hu h.ne (h.vne hT), hk, h.bse, h.ne, by rw [hr]; exact ownsRow_upd h.rd hu (own_ne_blk h.rd h.blk (Ne.symm hT)), ho, h.sep⟩
theorem Cur.gone (h : Cur w B bT TT p n tv t rv ts vs) (hT : TT ≠ 3) (hu : Upd (fun k => k = bT) w w') : Eng w' B TT p n tv ts vs := h.eng.upd hu h.ne (h.vne hT)
/-- The try's own block and its rounds turn. -/
theorem Cur.putR (h : Cur w B bT TT p n tv t rv ts vs) (hT : TT ≠ 3) (hu : Upd (fun k => k = bT ∨ rv.ownBlock = some k) w w') {t2 : TryD} (hk : w'.heap[bT]? = some (.cells (tryC t2 rv) TT (0, 0))) (hr : RdsAt w' B rv t2.rounds) (ho : TOK p n t2) : Cur w' B bT TT p n tv t2 rv ts vs :=
  ⟨h.eng.upd hu (fun g hg e => e.elim (h.ne g hg) (own_ne h.eng.own h.rd hT g hg)) (fun v hv g hg e => e.elim (h.vne hT v hv g hg) (fun e => h.sep v hv g e hg)), hk, h.bse, h.ne, hr, ho, h.sep⟩
/-- A try more waits. -/
theorem Cur.split {bM : Nat} {mc : Value → Array Value} {M : TypeId} {t1 t2 : TryD} {e : Ending} (h : Cur w B bT TT p n tv t rv ts vs) (hT : TT ≠ 3) (hB : B ≤ w.heap.size) (kM : w.heap[bM]? = some (.cells (mc tv) M (0, 0))) (hM : M ≠ 3)
    (hp : SplPost w bM bT B mc M TT rv t t1 ts t2 vs tv e w') (hr1 : t1.rounds = t.rounds) (hr2 : t2.rounds = t.rounds) (ho1 : TOK p n t1) (ho2 : TOK p n t2) :
    e = .returned (.bool true) ∧ ∃ tv' rv', w'.heap[bM]? = some (.cells (mc tv') M (0, 0)) ∧ Cur w' B bT TT p n tv' t1 rv (ts ++ [t2]) (vs ++ [rv']) ∧ Upd (fun k => k = bM ∨ k = bT ∨ tv.ownBlock = some k) w w' := by
  obtain ⟨he, tv', rv', g1, g2, g3, g4, g5, g6⟩ := hp
  refine ⟨he, tv', rv', g1, ?_, g6⟩
  have hvM : ∀ v, v ∈ vs → ∀ g, v.ownBlock = some g → g ≠ bM := fun v hv => by
    obtain ⟨l, hl⟩ := h.eng.rdv hv
    exact own_ne_blk hl kM (Ne.symm hM)
  have hlt : ∀ v, v ∈ vs → ∀ g, v.ownBlock = some g → g < w.heap.size := fun v hv g hg => by
    obtain ⟨l, hl⟩ := h.eng.rdv hv
    exact (hl.lt g hg).2
  have hvu : ∀ {v : Value} {l : List Int}, RdsAt w B v l → RdsAt w' B v l := fun {v l} hl => ownsRow_upd hl g6 (fun g hg e => by
    rcases e with e | e | e
    · exact own_ne_blk hl kM (Ne.symm hM) g hg e
    · exact own_ne_blk hl h.blk (Ne.symm hT) g hg e
    · exact own_ne h.eng.own hl hT g e hg)
  have hnew : ∀ g, rv'.ownBlock = some g → w.heap.size ≤ g := fun g hg => (g4.lt g hg).1
  refine ⟨⟨?_, ?_, fun i i1 i2 => ?_, ?_, ?_⟩, g2, h.bse, fun g hg => ?_, ?_, ho1, ?_⟩
  · rw [List.length_append]; exact g3
  · simp [h.eng.len]
  · by_cases hi : i < ts.length
    · rw [List.getElem_append_left hi, List.getElem_append_left (by rw [← h.eng.len]; exact hi)]
      exact hvu (h.eng.rds i hi (by rw [← h.eng.len]; exact hi))
    · have e : i = ts.length := by simp at i1; omega
      subst e
      rw [List.getElem_append_right (Nat.le_refl _), List.getElem_append_right (by rw [h.eng.len]; exact Nat.le_refl _)]
      simp only [h.eng.len, Nat.sub_self, List.getElem_cons_zero, hr2]
      exact g4.base hB
  · intro a ha
    rcases List.mem_append.1 ha with ha | ha
    · exact h.eng.ok a ha
    · simp only [List.mem_singleton] at ha; rw [ha]; exact ho2
  · rw [List.pairwise_append]
    refine ⟨h.eng.sep, List.pairwise_singleton _ _, fun a ha b hb g hg e => ?_⟩
    simp only [List.mem_singleton] at hb
    subst hb
    have := hnew g e
    have := hlt a ha g hg
    omega
  · rcases g5 with e | ⟨g', e, e2⟩
    · rw [e] at hg; exact h.ne g hg
    · rw [e] at hg; injection hg with hg; have := heap_lt h.blk; omega
  · rw [hr1]; exact hvu h.rd
  · intro v hv
    rcases List.mem_append.1 hv with hv | hv
    · exact h.sep v hv
    · simp only [List.mem_singleton] at hv
      subst hv
      intro g hg e
      have := hnew g e
      have := (h.rd.lt g hg).2
      omega
end
theorem stepT_rounds {fold : Bool} {l : List UInt8} {t t2 : TryD} {i : InstD} (h : stepT fold l t i = some t2) : t2.rounds = t.rounds := by
  unfold stepT at h
  simp only [] at h
  repeat' split at h
  all_goals first | (injection h with h; subst h; rfl; done) | cases h; done | skip
  all_goals
    cases hb : backF fold l { t with pc := t.pc + 1 } i.x.toNat with
    | none => rw [hb] at h; cases h
    | some q => rw [hb] at h; simp only [Option.map_some, Option.some.injEq] at h; subst h; rfl
/-- What a step of an engine leaves. -/
def RunPost (w : World) (B bM bT : Nat) (mc : Value → Array Value) (M TT : TypeId) (p : ProgD) (n : Nat) (tv : Value) (ts : List TryD) (vs : List Value) (q : Option (TryD × List TryD)) (e : Ending) (w' : World) : Prop :=
  Upd (fun k => B ≤ k) w w' ∧
  match q with
  | none => e = .returned (.bool false) ∧ Eng w' B TT p n tv ts vs ∧ w'.heap[bM]? = some (.cells (mc tv) M (0, 0))
  | some (t2, ts2) => e = .returned (.bool true) ∧ ∃ tv' rv' vs', Cur w' B bT TT p n tv' t2 rv' ts2 vs' ∧ w'.heap[bM]? = some (.cells (mc tv') M (0, 0))
theorem RunPost.of_T {w w' : World} {B bM bT : Nat} {mc : Value → Array Value} {M TT : TypeId} {p : ProgD} {n : Nat} {tv rv : Value} {t : TryD} {ts : List TryD} {vs : List Value} {l : List UInt8} {i : InstD} {e : Ending}
    (h : Cur w B bT TT p n tv t rv ts vs) (hT : TT ≠ 3) (hMT : M ≠ TT) (kM : w.heap[bM]? = some (.cells (mc tv) M (0, 0))) (h4 : i.op ≠ 4) (h12 : i.op ≠ 12) (ho : ∀ t2 ts2, stepF p.fold l t i ts = some (t2, ts2) → TOK p n t2)
    (hp : StepPost w bT TT rv (stepT p.fold l t i) e w') : RunPost w B bM bT mc M TT p n tv ts vs (stepF p.fold l t i ts) e w' := by
  have hMb : bM ≠ bT := fun e => by
    have := h.blk
    rw [← e, kM] at this
    simp only [Option.some.injEq, Obj.cells.injEq] at this
    exact hMT this.2.1
  rw [stepF_T h4 h12] at ho ⊢
  unfold StepPost at hp
  cases hq : stepT p.fold l t i with
  | none =>
    rw [hq] at hp
    obtain ⟨h1, h2⟩ := hp
    exact ⟨h2.mono (fun k _ (e : k = bT) => by rw [e]; exact h.bse), h1, h.gone hT h2, h2.heap kM hMb⟩
  | some t2 =>
    rw [hq] at hp
    obtain ⟨h1, h2, h3⟩ := hp
    refine ⟨h3.mono (fun k _ (e : k = bT) => by rw [e]; exact h.bse), h1, tv, rv, vs, h.put hT h3 h2 (stepT_rounds hq) (ho t2 ts (by rw [hq]; rfl)), h3.heap kM hMb⟩
theorem step_run {w : World} (bM bT B : Nat) (cv tv rv : Value) (p : ProgD) (s : ByteArray) (t : TryD) (i : InstD) (ts : List TryD) (vs : List Value) (hp : Sound p) (hi : p.code[t.pc]? = some i) (h14 : i.op ≠ 14) (hs0 : s.size ≤ 140737488351232) (htl : ts.length ≤ 100000) (hB : B ≤ w.heap.size) (hBM : B ≤ bM)
    (hc : Cur w B bT 54 p s.size tv t rv ts vs) (kM : w.heap[bM]? = some (.cells #[cv, .int .i64 p.rounds, .bool p.fold, .string s, tv] 58 (0, 0))) :
    Calls Try.prog 27 #[.pointer (some ⟨bM, 0, none⟩), .pointer (some ⟨bT, 0, none⟩), .agg (instC i).toArray] w (RunPost w B bM bT (fun v => #[cv, .int .i64 p.rounds, .bool p.fold, .string s, v]) 58 54 p s.size tv ts vs (stepF p.fold s.data.toList t i ts)) := by
  have hT : 54 ≠ 3 := by decide
  have hM : 58 ≠ 3 := by decide
  have hMT : 58 ≠ 54 := by decide
  have hl : s.data.toList.length = s.size := by simp
  have hlt : t.pc < p.code.length := (List.getElem?_eq_some_iff.1 hi).1
  have hI : InOK p i := hp.fine i (List.mem_of_getElem? hi)
  have h2000 := hp.n2
  have hpc : t.pc ≤ 1000000 := by omega
  have hok : ∀ t2 ts2, stepF p.fold s.data.toList t i ts = some (t2, ts2) → TOK p s.size t2 ∧ ∀ a, a ∈ ts2 → TOK p s.size a := fun t2 ts2 h => by
    have := stepF_ok hI (l := s.data.toList) (by rw [hl]; exact hc.ok) hlt (by rw [hl]; exact hc.eng.ok) h
    rw [hl] at this
    exact ⟨this.1, this.2.1⟩
  have hko : ∀ t2 ts2, stepF p.fold s.data.toList t i ts = some (t2, ts2) → TOK p s.size t2 := fun t2 ts2 h => (hok t2 ts2 h).1
  have hrl : t.rounds.length ≤ 2000 := by have := hc.ok.rl; have := hp.r2; omega
  by_cases a1 : i.op = 1 ∨ i.op = 2 ∨ i.op = 3
  · exact (stepA_any bM bT cv tv rv p.rounds p.fold s t i a1 hc.ok.ok hpc hs0 kM hc.blk).mono fun e w' hh => .of_T hc hT hMT kM (by omega) (by omega) hko hh
  by_cases a4 : i.op = 4
  · have hx := hI.x4 a4
    have hq : stepF p.fold s.data.toList t i ts = some ({ t with pc := i.x.toNat }, ts ++ [{ t with pc := i.y.toNat }]) := by
      unfold stepF; simp only []; rw [if_neg a1, if_pos a4]
    have hk := hok _ _ hq
    refine (stepS_any bM bT B cv tv rv p.rounds p.fold s t i ts vs a4 hc.rd hrl hc.eng.own htl hc.ne hc.eng.len hB hx.1 (by omega) hx.2.2.1 (by omega) hc.ok.ok hpc kM hc.blk).mono fun e w' hh => ?_
    obtain ⟨he, tv', rv', k1, k2, k3⟩ := hc.split (mc := fun v => #[cv, .int .i64 p.rounds, .bool p.fold, .string s, v]) hT hB kM hM hh rfl rfl hk.1 (hk.2 _ (by simp))
    rw [hq]
    refine ⟨k3.mono (fun k _ e => ?_), he, tv', rv, _, k2, k1⟩
    rcases e with e | e | e
    · rw [e]; exact hBM
    · rw [e]; exact hc.bse
    · exact (hc.eng.own.lt k e).1
  by_cases a5 : i.op = 5
  · have hx := hI.x5 a5
    exact (stepJ_any bM bT cv tv rv p.rounds p.fold s t i a5 hx.1 (by omega) hc.ok.ok hpc hs0 kM hc.blk).mono fun e w' hh => .of_T hc hT hMT kM (by omega) (by omega) hko hh
  by_cases a6 : i.op = 6
  · have hx := hI.x6 a6
    exact (stepV_any bM bT cv tv rv p.rounds p.fold s t i a6 hx.1 hx.2 hc.ok.ok hpc hs0 kM hc.blk).mono fun e w' hh => .of_T hc hT hMT kM (by omega) (by omega) hko hh
  by_cases a7 : i.op = 7
  · have hx := hI.x7 a7
    exact (stepK_any bM bT cv tv rv p.rounds p.fold s t i a7 hx.1 hx.2 hc.ok.ok hpc hs0 kM hc.blk).mono fun e w' hh => .of_T hc hT hMT kM (by omega) (by omega) hko hh
  by_cases a12 : i.op = 12
  · have hx := hI.x12 (.inl a12)
    have hrr := hc.ok.rl
    have hq : stepF p.fold s.data.toList t i ts = some ({ t with pc := t.pc + 1, rounds := t.rounds.set i.x.toNat t.pos }, ts) := by
      unfold stepF; simp only []; rw [if_neg a1, if_neg a4, if_neg a5, if_neg a6, if_neg a7, if_pos a12]
    refine (stepR_any bM bT cv tv rv p.rounds p.fold s t i a12 B hc.rd hx.1 (by omega) hc.ok.ok hpc hs0 kM hc.blk).mono fun e w' hh => ?_
    obtain ⟨h1, h2, h3, h4⟩ := hh
    rw [hq]
    refine ⟨h4.mono (fun k _ e => ?_), h1, tv, rv, vs, hc.putR hT h4 (t2 := { t with pc := t.pc + 1, rounds := t.rounds.set i.x.toNat t.pos }) h2 h3 (hko _ _ hq), h4.heap kM (fun e => ?_)⟩
    · rcases e with e | e
      · rw [e]; exact hc.bse
      · exact (hc.rd.lt k e).1
    · rcases e with e | e
      · have := hc.blk
        rw [← e, kM] at this
        simp only [Option.some.injEq, Obj.cells.injEq] at this
        exact hMT this.2.1
      · exact own_ne_blk hc.rd kM (Ne.symm hM) bM e rfl
  by_cases a13 : i.op = 13
  · have hx := hI.x12 (.inr a13)
    have hrr := hc.ok.rl
    exact (stepG_any bM bT cv tv rv p.rounds p.fold s t i a13 B hc.rd hx.1 (by omega) hc.ok.ok hpc hs0 kM hc.blk).mono fun e w' hh => .of_T hc hT hMT kM (by omega) (by omega) hko hh
  exact (stepL_any bM bT cv tv rv p.rounds p.fold s t i ⟨a1, a4, a5, a6, a7, a12, a13⟩ hc.ok.ok hpc hs0 kM hc.blk).mono fun e w' hh => .of_T hc hT hMT kM a4 a12 hko hh
theorem rstep_run {w : World} (bM bT B : Nat) (cv tv rv : Value) (stp : Int) (p : ProgD) (s : ByteArray) (t : TryD) (i : InstD) (ts : List TryD) (vs : List Value) (hp : Sound p) (hi : p.code[t.pc]? = some i) (h14 : i.op ≠ 14) (hs0 : s.size ≤ 140737488351232) (htl : ts.length ≤ 100000) (hB : B ≤ w.heap.size) (hBM : B ≤ bM)
    (hc : Cur w B bT 82 p s.size tv t rv ts vs) (kM : w.heap[bM]? = some (.cells #[cv, .int .i64 p.rounds, .bool p.fold, .string s, tv, .int .i64 stp] 80 (0, 0))) :
    Calls Try.prog 35 #[.pointer (some ⟨bM, 0, none⟩), .pointer (some ⟨bT, 0, none⟩), .agg (instC i).toArray] w (RunPost w B bM bT (fun v => #[cv, .int .i64 p.rounds, .bool p.fold, .string s, v, .int .i64 stp]) 80 82 p s.size tv ts vs (stepF p.fold s.data.toList t i ts)) := by
  have hT : 82 ≠ 3 := by decide
  have hM : 80 ≠ 3 := by decide
  have hMT : 80 ≠ 82 := by decide
  have hl : s.data.toList.length = s.size := by simp
  have hlt : t.pc < p.code.length := (List.getElem?_eq_some_iff.1 hi).1
  have hI : InOK p i := hp.fine i (List.mem_of_getElem? hi)
  have h2000 := hp.n2
  have hpc : t.pc ≤ 1000000 := by omega
  have hok : ∀ t2 ts2, stepF p.fold s.data.toList t i ts = some (t2, ts2) → TOK p s.size t2 ∧ ∀ a, a ∈ ts2 → TOK p s.size a := fun t2 ts2 h => by
    have := stepF_ok hI (l := s.data.toList) (by rw [hl]; exact hc.ok) hlt (by rw [hl]; exact hc.eng.ok) h
    rw [hl] at this
    exact ⟨this.1, this.2.1⟩
  have hko : ∀ t2 ts2, stepF p.fold s.data.toList t i ts = some (t2, ts2) → TOK p s.size t2 := fun t2 ts2 h => (hok t2 ts2 h).1
  have hrl : t.rounds.length ≤ 2000 := by have := hc.ok.rl; have := hp.r2; omega
  by_cases a1 : i.op = 1 ∨ i.op = 2 ∨ i.op = 3
  · exact (rstepA_any bM bT cv tv rv p.rounds stp p.fold s t i a1 hc.ok.ok hpc hs0 kM hc.blk).mono fun e w' hh => .of_T hc hT hMT kM (by omega) (by omega) hko hh
  by_cases a4 : i.op = 4
  · have hx := hI.x4 a4
    have hq : stepF p.fold s.data.toList t i ts = some ({ t with pc := i.x.toNat }, ts ++ [{ t with pc := i.y.toNat }]) := by
      unfold stepF; simp only []; rw [if_neg a1, if_pos a4]
    have hk := hok _ _ hq
    refine (rstepS_any bM bT B cv tv rv p.rounds stp p.fold s t i ts vs a4 hc.rd hrl hc.eng.own htl hc.ne hc.eng.len hB hx.1 (by omega) hx.2.2.1 (by omega) hc.ok.ok hpc kM hc.blk).mono fun e w' hh => ?_
    obtain ⟨he, tv', rv', k1, k2, k3⟩ := hc.split (mc := fun v => #[cv, .int .i64 p.rounds, .bool p.fold, .string s, v, .int .i64 stp]) hT hB kM hM hh rfl rfl hk.1 (hk.2 _ (by simp))
    rw [hq]
    refine ⟨k3.mono (fun k _ e => ?_), he, tv', rv, _, k2, k1⟩
    rcases e with e | e | e
    · rw [e]; exact hBM
    · rw [e]; exact hc.bse
    · exact (hc.eng.own.lt k e).1
  by_cases a5 : i.op = 5
  · have hx := hI.x5 a5
    exact (rstepJ_any bM bT cv tv rv p.rounds stp p.fold s t i a5 hx.1 (by omega) hc.ok.ok hpc hs0 kM hc.blk).mono fun e w' hh => .of_T hc hT hMT kM (by omega) (by omega) hko hh
  by_cases a6 : i.op = 6
  · have hx := hI.x6 a6
    exact (rstepV_any bM bT cv tv rv p.rounds stp p.fold s t i a6 hx.1 hx.2 hc.ok.ok hpc hs0 kM hc.blk).mono fun e w' hh => .of_T hc hT hMT kM (by omega) (by omega) hko hh
  by_cases a7 : i.op = 7
  · have hx := hI.x7 a7
    exact (rstepK_any bM bT cv tv rv p.rounds stp p.fold s t i a7 hx.1 hx.2 hc.ok.ok hpc hs0 kM hc.blk).mono fun e w' hh => .of_T hc hT hMT kM (by omega) (by omega) hko hh
  by_cases a12 : i.op = 12
  · have hx := hI.x12 (.inl a12)
    have hrr := hc.ok.rl
    have hq : stepF p.fold s.data.toList t i ts = some ({ t with pc := t.pc + 1, rounds := t.rounds.set i.x.toNat t.pos }, ts) := by
      unfold stepF; simp only []; rw [if_neg a1, if_neg a4, if_neg a5, if_neg a6, if_neg a7, if_pos a12]
    refine (rstepR_any bM bT cv tv rv p.rounds stp p.fold s t i a12 B hc.rd hx.1 (by omega) hc.ok.ok hpc hs0 kM hc.blk).mono fun e w' hh => ?_
    obtain ⟨h1, h2, h3, h4⟩ := hh
    rw [hq]
    refine ⟨h4.mono (fun k _ e => ?_), h1, tv, rv, vs, hc.putR hT h4 (t2 := { t with pc := t.pc + 1, rounds := t.rounds.set i.x.toNat t.pos }) h2 h3 (hko _ _ hq), h4.heap kM (fun e => ?_)⟩
    · rcases e with e | e
      · rw [e]; exact hc.bse
      · exact (hc.rd.lt k e).1
    · rcases e with e | e
      · have := hc.blk
        rw [← e, kM] at this
        simp only [Option.some.injEq, Obj.cells.injEq] at this
        exact hMT this.2.1
      · exact own_ne_blk hc.rd kM (Ne.symm hM) bM e rfl
  by_cases a13 : i.op = 13
  · have hx := hI.x12 (.inr a13)
    have hrr := hc.ok.rl
    exact (rstepG_any bM bT cv tv rv p.rounds stp p.fold s t i a13 B hc.rd hx.1 (by omega) hc.ok.ok hpc hs0 kM hc.blk).mono fun e w' hh => .of_T hc hT hMT kM (by omega) (by omega) hko hh
  have h8 := hI.op
  rcases (show i.op = 8 ∨ i.op = 9 ∨ i.op = 10 ∨ i.op = 11 by omega) with h | h | h | h
  · exact (rstepL8_any bM bT cv tv rv p.rounds stp p.fold s t i h hc.ok.ok hpc hs0 kM hc.blk).mono fun e w' hh => .of_T hc hT hMT kM (by omega) (by omega) hko hh
  · exact (rstepL9_any bM bT cv tv rv p.rounds stp p.fold s t i h hc.ok.ok hpc hs0 kM hc.blk).mono fun e w' hh => .of_T hc hT hMT kM (by omega) (by omega) hko hh
  · exact (rstepL10_any bM bT cv tv rv p.rounds stp p.fold s t i h hc.ok.ok hpc hs0 kM hc.blk).mono fun e w' hh => .of_T hc hT hMT kM (by omega) (by omega) hko hh
  · exact (rstepL11_any bM bT cv tv rv p.rounds stp p.fold s t i h hc.ok.ok hpc hs0 kM hc.blk).mono fun e w' hh => .of_T hc hT hMT kM (by omega) (by omega) hko hh
end Go.Proofs.Ytigbfgmgdfnhcaa
namespace Go.Proofs.Ytigbfgmgdfnhcaa
open Go.RowKit
section
variable {P : Program}
theorem results_blk_tmp3 {fn : Func} {p u v x : Tmp} {ty : TypeId} (h : fn.results = #[.cell p ty, .tmp u, .tmp v, .tmp x]) (tmps : Array Value) (w : World) (g : Nat) (t : TypeId) (cs : Array Value) (fr : Nat × Nat) (d : TypeDesc) (u1 v1 x1 : Value)
    (hp : tmps.getD p undef = .pointer (some ⟨g, 0, Option.none⟩)) (hu1 : tmps.getD u undef = u1) (hv1 : tmps.getD v undef = v1) (hx1 : tmps.getD x undef = x1) (hg : w.heap[g]? = some (.cells cs t fr))
    (hu : P.underlying ty = some d) (hd : (match d with | .struct _ | .array _ _ => true | _ => false) = true) (hi : (P.info? ty).map (·.size) = some cs.size) :
    (results fn tmps).run P w = .ok (.tuple #[.agg cs, u1, v1, x1]) w := by
  have hr := run_loadVar_row w g t ty cs fr d hg hu hd hi
  simp only [results, h]
  have hp2 : tmps[p]?.getD undef = .pointer (some ⟨g, 0, Option.none⟩) := by simpa using hp
  have hu2 : tmps[u]?.getD undef = u1 := by simpa using hu1
  have hv2 : tmps[v]?.getD undef = v1 := by simpa using hv1
  have hx2 : tmps[x]?.getD undef = x1 := by simpa using hx1
  simp [hp2, hu2, hv2, hx2, Sem.run_bind, asAddr, hr, Result.andThen]
end
/-- What waited last. -/
structure Popped (w : World) (B : Nat) (TT : TypeId) (p : ProgD) (n : Nat) (g c : Nat) (L : List TryD) (b : TryD) (V : List Value) (rv : Value) : Prop where
  eng : Eng w B TT p n (.slice (some ⟨g, 0, none⟩) L.length c) L V
  rd : RdsAt w B rv b.rounds
  ok : TOK p n b
  sep : ∀ v, v ∈ V → Apart rv v
  cells : ∀ j u, (tryL b rv)[j]? = some u → w.cell? ((⟨g, L.length * 25, none⟩ : Addr).add j) = some u
  cap : L.length + 1 ≤ c
  capm : c ≤ maxLen
  lt : g < w.heap.size
theorem Eng.pop {w : World} {B : Nat} {TT : TypeId} {p : ProgD} {n : Nat} {tv : Value} {L : List TryD} {b : TryD} {vs : List Value} (h : Eng w B TT p n tv (L ++ [b]) vs) :
    ∃ g c V rv, tv = .slice (some ⟨g, 0, none⟩) (L.length + 1) c ∧ vs = V ++ [rv] ∧ Popped w B TT p n g c L b V rv := by
  obtain ⟨V, rv, rfl⟩ : ∃ V rv, vs = V ++ [rv] := by
    rcases List.eq_nil_or_concat vs with rfl | ⟨V, rv, rfl⟩
    · have := h.len; simp at this
    · exact ⟨V, rv, by simp⟩
  have hlen : L.length = V.length := by have := h.len; simpa using this
  have hown := h.own
  rw [triesC_snoc L V b rv hlen] at hown
  have hb : TOK p n b := h.ok b (by simp)
  have hL : (triesC L V).length = L.length * 25 := triesC_len L V hlen (fun t ht => (h.ok t (by simp [ht])).ok.sl)
  rcases hown.2 with ⟨_, h0⟩ | ⟨g, c, cur, e, hB, hg, hnc, hcm, hsz, htk⟩
  · simp at h0
  · refine ⟨g, c, V, rv, by simpa using e, rfl, ⟨?_, ?_, fun i h1 h2 => ?_, fun t ht => h.ok t (by simp [ht]), ?_⟩, ?_, hb, ?_, ?_, by simpa using hnc, hcm, heap_lt hg⟩
    · refine ⟨hL, .inr ⟨g, c, cur, rfl, hB, hg, by simp at hnc; omega, hcm, hsz, ?_⟩⟩
      have h3 := congrArg (List.take (L.length * 25)) htk
      rw [List.take_take, List.take_left' hL] at h3
      rw [← h3]
      congr 1
      first | (simp; done) | (simp; omega)
    · exact hlen
    · have := h.rds i (by simp; omega) (by simp; omega)
      rw [List.getElem_append_left h1, List.getElem_append_left h2] at this
      exact this
    · have := h.sep; rw [List.pairwise_append] at this; exact this.1
    · have := h.rds L.length (by simp) (by simp [hlen])
      rw [List.getElem_append_right (Nat.le_refl _)] at this
      simp only [Nat.sub_self, List.getElem_cons_zero] at this
      rw [List.getElem_append_right (by omega)] at this
      simpa [hlen] using this
    · intro v hv g1 g2 g3
      have := h.sep
      rw [List.pairwise_append] at this
      exact this.2.2 v hv rv (by simp) g1 g3 g2
    · intro j u hu
      have hj : j < 25 := by
        rcases Nat.lt_or_ge j (tryL b rv).length with h9 | h9
        · rw [tryL_len hb.ok.sl] at h9; exact h9
        · rw [List.getElem?_eq_none h9] at hu; cases hu
      rw [Addr.add_mid, cells_of hg (L.length * 25 + j)]
      have h4 : (triesC L V ++ tryL b rv)[L.length * 25 + j]? = some u := by
        rw [List.getElem?_append_right (by omega), hL, Nat.add_sub_cancel_left]; exact hu
      rw [← htk, List.getElem?_take] at h4
      split at h4
      · simpa using h4
      · cases h4
/-- The result of an engine, as values. -/
def resV (k : IntKind) (R : ResD) : Value := .tuple #[.agg (matchC R.m), .int .i64 R.left, .bool R.is, .int k R.err]
theorem atF_bad {p : ProgD} {l : List UInt8} {a st : Int} {R : ResD} (h : atF p l a st = some R) (hb : soundB p = false ∨ st < 0 ∨ 5000 < st ∨ a < 0 ∨ (l.length : Int) < a) : R = .zero 1 := by
  unfold atF at h
  rw [if_pos hb] at h
  exact (Option.some.inj h).symm
theorem atF_run {p : ProgD} {l : List UInt8} {a st : Nat} {R : ResD} (h : atF p l a st = some R) (hs : soundB p = true) (h1 : st ≤ 5000) (h2 : a ≤ l.length) : runF p l a (3 * st + 4) st none [firstT a p.rounds] = some R := by
  unfold atF at h
  rw [if_neg (by rintro (g | g | g | g | g) <;> first | exact absurd (hs.symm.trans g) (by decide) | omega)] at h
  simpa using h
theorem runF_pop {p : ProgD} {l : List UInt8} {a f st : Nat} {L : List TryD} {b : TryD} {R : ResD} (h : runF p l a (f + 1) st none (L ++ [b]) = some R) : runF p l a f st (some b) L = some R := by
  unfold runF at h
  simpa using h
theorem runF_end {p : ProgD} {l : List UInt8} {a f st : Nat} {R : ResD} (h : runF p l a (f + 1) st none [] = some R) : R = ⟨.zero, st, false, 0⟩ := by
  unfold runF at h
  simpa using h.symm
theorem runF_past {p : ProgD} {l : List UInt8} {a f st : Nat} {ts : List TryD} {t : TryD} {R : ResD} (h : runF p l a (f + 1) st (some t) ts = some R) (hp : p.code.length ≤ t.pc) : runF p l a f st none ts = some R := by
  unfold runF at h
  rw [List.getElem?_eq_none hp] at h
  exact h
theorem runF_step0 {p : ProgD} {l : List UInt8} {a f : Nat} {ts : List TryD} {t : TryD} {i : InstD} {R : ResD} (h : runF p l a (f + 1) 0 (some t) ts = some R) (hp : p.code[t.pc]? = some i) : R = .zero 50 := by
  unfold runF at h
  rw [hp] at h
  simpa using h.symm
theorem runF_match {p : ProgD} {l : List UInt8} {a f st : Nat} {ts : List TryD} {t : TryD} {i : InstD} {R : ResD} (h : runF p l a (f + 1) (st + 1) (some t) ts = some R) (hp : p.code[t.pc]? = some i) (h14 : i.op = 14) : R = ⟨matchF t a, st, true, 0⟩ := by
  unfold runF at h
  rw [hp] at h
  simp only [if_pos h14] at h
  simpa using h.symm
theorem runF_fail {p : ProgD} {l : List UInt8} {a f st : Nat} {ts : List TryD} {t : TryD} {i : InstD} {R : ResD} (h : runF p l a (f + 1) (st + 1) (some t) ts = some R) (hp : p.code[t.pc]? = some i) (h14 : i.op ≠ 14) (hq : stepF p.fold l t i ts = none) : runF p l a f st none ts = some R := by
  unfold runF at h
  rw [hp] at h
  simp only [if_neg h14, hq] at h
  exact h
theorem runF_go {p : ProgD} {l : List UInt8} {a f st : Nat} {ts ts2 : List TryD} {t t2 : TryD} {i : InstD} {R : ResD} (h : runF p l a (f + 1) (st + 1) (some t) ts = some R) (hp : p.code[t.pc]? = some i) (h14 : i.op ≠ 14) (hq : stepF p.fold l t i ts = some (t2, ts2)) : runF p l a f st (some t2) ts2 = some R := by
  unfold runF at h
  rw [hp] at h
  simp only [if_neg h14, hq] at h
  exact h
section
variable {ops : Array Oper} {rest : List Oper} {op : Oper} {a : Act} {w : World} {Q : Exit → Act → World → Prop}
theorem wpList_slice1_blk {P : Program} (hgd : op.guard = none) (t e : TypeId) (parts : Array (Nat × Operand)) (ho : op.op = .buildSlice t 1 parts) (hu : P.underlying t = some (.slice e)) (ie : TypeInfo) (z v : Value) (n : Nat) (hi : P.info? e = some ie) (hz : ie.zero = some z) (hsz : ie.size = n) (h0 : 0 < n) (h24 : n ≤ 16777216)
    (x : Operand) (hp : parts = #[(0, x)]) (hx : a.eval x = v) (Z : Array Value) (hv : v.cells = Z) (hZ : Z.size = n)
    (h : ∀ b w', w.heap.size = b → w'.heap[b]? = some (.cells Z e (0, 0)) → Upd (fun _ => False) w w' → w'.heap.size = b + 1 → wpList P ops Q rest (a.put op.dst (.slice (some ⟨b, 0, none⟩) 1 1)) w') : wpList P ops Q (op :: rest) a w :=
  wpList_plain hgd fun _ hK => wp_slice1_blk t e parts ho hu ie z v n hi hz hsz h0 h24 x hp hx Z hv hZ fun b w' g1 g2 g3 g4 => hK _ _ (h b w' g1 g2 g3 g4)
theorem wp_alloc_blk {P : Program} {K : Act → World → Prop} (ty : TypeId) (ho : op.op = .alloc ty) (z : Value) (hz : (P.info? ty).map (·.zero) = some (some z)) (Z : Array Value) (hZ : z.cells = Z)
    (h : ∀ b w', w.heap.size = b → w'.heap[b]? = some (.cells Z ty (0, 0)) → Upd (fun _ => False) w w' → w'.heap.size = b + 1 → K (a.put op.dst (.pointer (some ⟨b, 0, none⟩))) w') : op.wp P a w K Q := by
  subst hZ
  have hz2 : (zeroValue ty).run P w = .ok z w := by
    cases hi : P.info? ty with
    | none => simp [hi] at hz
    | some i =>
      have h3 : i.zero = some z := by simpa [hi] using hz
      simp [zeroValue, typeInfo, hi, h3, Sem.run_bind]
  unfold Oper.wp execOp
  obtain ⟨g1, g2, g3⟩ := new_facts w (.cells z.cells ty)
  simp only [ho, Instr.alloc, Sem.run_bind, hz2, Result.andThen_ok, newVar, newRow, run_newObj_alloc, Sem.run_pure]
  exact h _ _ rfl g1 g2 g3
theorem wpList_make_rds (hgd : op.guard = none) (l c : Operand) (t : TypeId) (ho : op.op = Op.makeSlice t l c) (ht : t = 51) (n : Nat) (hl : a.eval l = .int .i64 (n : Int)) (hc : a.eval c = .int .i64 (n : Int)) (hn : n ≤ 2000)
    (hK : ∀ b w', w.heap.size = b → RdsAt w' b (.slice (some ⟨b, 0, none⟩) n n) (List.replicate n 0) → Upd (fun _ => False) w w' → wpList Try.prog ops Q rest (a.put op.dst (.slice (some ⟨b, 0, none⟩) n n)) w') : wpList Try.prog ops Q (op :: rest) a w := by
  obtain ⟨i0, hi, hz0, hz1, hz2⟩ := info_parts info_int5
  subst ht
  refine wpList_make_full w hgd l c 51 ho w.heap.size 3 i0 (.int .i64 0) 1 Try.underlying51 hi hz0 hz1 .i64 .i64 _ _ n hl hc rfl rfl (by rw [hz2]; omega) (by unfold maxLen; omega) (Nat.le_refl _) ?_
  intro w' ho' hg
  refine hK _ _ rfl ?_ ((Upd.refl _ w).grown hg (fun k _ e => by cases e))
  have e : (madeCells (Value.int .i64 0).cells (n * 1)).toList = intsC (List.replicate n 0) := by
    rw [show (Value.int .i64 0).cells = #[Value.int .i64 0] from rfl, made_one, intsC, List.map_replicate]
  rw [e] at ho'
  show w'.ownsRow _ _ _ _ _ _
  rw [List.length_replicate]
  exact ho'
end
theorem Cur.mach {w w' : World} {B bT bM : Nat} {TT M : TypeId} {p : ProgD} {n : Nat} {tv : Value} {t : TryD} {rv : Value} {ts : List TryD} {vs : List Value} {C : Array Value} (h : Cur w B bT TT p n tv t rv ts vs) (kM : w.heap[bM]? = some (.cells C M (0, 0))) (hM : M ≠ 3) (hMT : M ≠ TT) (hu : Upd (fun k => k = bM) w w') : Cur w' B bT TT p n tv t rv ts vs :=
  ⟨h.eng.upd hu (own_ne_blk h.eng.own kM (Ne.symm hMT)) (fun v hv => by obtain ⟨l, hl⟩ := h.eng.rdv hv; exact own_ne_blk hl kM (Ne.symm hM)), hu.heap h.blk (fun e => by
    have := h.blk
    rw [e, kM] at this
    simp only [Option.some.injEq, Obj.cells.injEq] at this
    exact hMT this.2.1), h.bse, h.ne, ownsRow_upd h.rd hu (own_ne_blk h.rd kM (Ne.symm hM)), h.ok, h.sep⟩
theorem Popped.cur {w w' : World} {B bT : Nat} {TT : TypeId} {p : ProgD} {n g c : Nat} {L : List TryD} {b : TryD} {V : List Value} {rv : Value} (h : Popped w B TT p n g c L b V rv) (hu : Upd (fun k => w.heap.size ≤ k) w w') (hT : w.heap.size ≤ bT) (hB : B ≤ w.heap.size) (kT : w'.heap[bT]? = some (.cells (tryC b rv) TT (0, 0))) :
    Cur w' B bT TT p n (.slice (some ⟨g, 0, none⟩) L.length c) b rv L V :=
  ⟨h.eng.newer hu, kT, Nat.le_trans hB hT, fun g' hg => by have := h.lt; simp only [Value.ownBlock, Option.some.injEq] at hg; omega, ownsRow_upd h.rd hu (fun g hg => by have := (h.rd.lt g hg).2; omega), h.ok, h.sep⟩
theorem Addr.add_zero (A : Addr) : A.add 0 = A := by simp [Addr.add]
theorem succ_ne0 (s : Nat) : ((s : Int) + 1 == 0) = false := by simp; omega
theorem wrapI_nat {n : Nat} (h : n ≤ 10000000) : IntKind.i64.wrap (n : Int) = (n : Int) := by unfold IntKind.wrap; simp [IntKind.signed, IntKind.bits]; omega
theorem wrap_nat64 {n : Nat} (h : n ≤ 10000000) : wrap64 (n : Int) = (n : Int) := by unfold wrap64; omega
theorem heap_lt' {w : World} {B g n c : Nat} {l : List Int} (h : RdsAt w B (.slice (some ⟨g, 0, none⟩) n c) l) : g < w.heap.size := (h.lt g rfl).2
def slotsK (k : Nat) : List Int := List.replicate k (-1) ++ List.replicate (22 - k) 0
theorem slotsK_len {k : Nat} (h : k ≤ 22) : (slotsK k).length = 22 := by simp [slotsK]; omega
theorem slotsK_set {k : Nat} (h : k < 22) : (slotsK k).set k (-1) = slotsK (k + 1) := by
  unfold slotsK
  rw [show 22 - k = (22 - (k + 1)) + 1 by omega, List.replicate_succ, List.set_append_right _ _ (by simp)]
  simp only [List.length_replicate, Nat.sub_self, zzO]
  rw [show List.replicate (k + 1) (-1 : Int) = List.replicate k (-1) ++ [-1] by rw [List.replicate_succ']]
  simp
/-- The same where the first one is left. -/
def slotsR (k : Nat) : List Int := 0 :: (List.replicate k (-1) ++ List.replicate (21 - k) 0)
theorem slotsR_len {k : Nat} (h : k ≤ 21) : (slotsR k).length = 22 := by simp [slotsR]; omega
theorem slotsR_set {k : Nat} (h : k < 21) : (slotsR k).set (k + 1) (-1) = slotsR (k + 1) := by
  unfold slotsR
  rw [zzS, show 21 - k = (21 - (k + 1)) + 1 by omega, List.replicate_succ, List.set_append_right _ _ (by simp)]
  simp only [List.length_replicate, Nat.sub_self, zzO]
  rw [show List.replicate (k + 1) (-1 : Int) = List.replicate k (-1) ++ [-1] by rw [List.replicate_succ']]
  simp
end Go.Proofs.Ytigbfgmgdfnhcaa
