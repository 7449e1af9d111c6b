/- Contract of lay of package regs. -/
import Derived.Test.YtlhcojclfgbobaaRegF
namespace Go.Proofs.Ytlhcojclfgbobaa
open Go.RowKit

theorem RegsAt.ne {w : World} {p mb n : Nat} {V : Int → Option Value} {M : Int → Option RegD} (h : RegsAt w p mb n V M) : p ≠ mb := by
  intro e
  have := h.map.nocell 0 none
  rw [← e, cell1_of h] at this
  cases this
theorem RegsAt.nocell {w : World} {p mb n : Nat} {V : Int → Option Value} {M : Int → Option RegD} (h : RegsAt w p mb n V M) (k : Nat) (hk : k = mb) (o : Nat) : w.cell? ⟨k, o, none⟩ = none := by
  subst hk
  exact h.map.nocell o none

theorem RegsAt.set {w w2 : World} {p mb n n2 : Nat} {V : Int → Option Value} {M : Int → Option RegD} {k : Int} {v : Value} {x : RegD} (h : RegsAt w p mb n V M) (hm : MapAt w2 mb n2 (setM V k (some v))) (hu : Upd (fun j => j = mb) w w2) (hx : RegAt w v x) (hsz : wrap64 (sizeR x) ≤ 20000 ∧ x.lines.length ≤ 8796093021952) :
    RegsAt w2 p mb n2 (setM V k (some v)) (setM M k (some x)) := by
  refine ⟨hu.heap h.blk h.ne, hm, fun c c0 c1 => ?_, fun c r hr => ?_⟩
  · by_cases hc : c = k
    · exact .inr ⟨v, x, by simp [setM, hc], by simp [setM, hc], hx.upd hu h.nocell⟩
    · rcases h.el c c0 c1 with ⟨h1, h2⟩ | ⟨u, r, h1, h2, h3⟩
      · exact .inl ⟨by simp [setM, hc, h1], by simp [setM, hc, h2]⟩
      · exact .inr ⟨u, r, by simp [setM, hc, h1], by simp [setM, hc, h2], h3.upd hu h.nocell⟩
  · by_cases hc : c = k
    · simp only [setM, hc, if_true, Option.some.injEq] at hr
      subst hr
      exact hsz
    · simp only [setM, hc, if_false] at hr
      exact h.short c r hr

/-- What is laid. -/
def laidX (M : Int → Option RegD) (c : Int) (x : RegD) : RegD := if smallI c = c then x else match M (smallI c) with
  | none => x
  | some o => bothR o x
def layM (M : Int → Option RegD) (c : Int) (x : RegD) : Int × (Int → Option RegD) :=
  if knownN c = false then (110, M) else if c = 95 then (0, M) else if (20000 : Int) < wrap64 (sizeR (laidX M c x)) then (112, M)
  else (0, setM (setM M (smallI c) (some (laidX M c x))) 34 (some (laidX M c x)))

/-- A look-up, opened. -/
theorem RegsAt.look {w : World} {p mb n : Nat} {V : Int → Option Value} {M : Int → Option RegD} (h : RegsAt w p mb n V M) {c : Int} (c0 : 0 ≤ c) (c1 : c ≤ 255) :
    ∃ la ln lc wh is, (∀ w', Upd (fun _ => False) w w' → (Instr.lookup 54 (.map (some mb)) (.int .u8 c) true).run Try.prog w' = .ok (.tuple #[.agg #[.slice la ln lc, .bool wh], .bool is]) w') ∧
      ((is = false ∧ M c = none) ∨ (is = true ∧ ∃ r, M c = some r ∧ RegAt w (.agg #[.slice la ln lc, .bool wh]) r)) := by
  rcases h.el c c0 c1 with ⟨hV, hM⟩ | ⟨v, r, hV, hM, hr⟩
  · refine ⟨none, 0, 0, false, false, fun w' hu => ?_, .inl ⟨rfl, hM⟩⟩
    have := (h.map.upd hu (fun h => h)).look c0 c1
    rw [hV] at this
    exact this
  · have hr' := hr
    obtain ⟨lv, rfl, a, cap, rfl, _⟩ := hr
    refine ⟨a, _, cap, r.whole, true, fun w' hu => ?_, .inr ⟨rfl, r, hM, hr'⟩⟩
    have := (h.map.upd hu (fun h => h)).look c0 c1
    rw [hV] at this
    exact this

set_option maxHeartbeats 2000000 in
set_option maxRecDepth 100000 in
theorem lay_none (p mb n : Nat) (V : Int → Option Value) (M : Int → Option RegD) (c : Int) (c0 : 0 ≤ c) (c1 : c ≤ 255) (v : Value) (x : RegD) (w : World) (h : RegsAt w p mb n V M) (hx : RegAt w v x) (hk : knownN c = false ∨ c = 95) :
    Calls Try.prog 27 #[.pointer (some ⟨p, 0, none⟩), .int .u8 c, v] w fun e w' => e = .returned (.int .u16 (layM M c x).1) ∧ Below w.heap.size w w' := by
  have hl : (layM M c x).1 = if knownN c = false then 110 else 0 := by
    unfold layM
    rcases hk with h | h
    · rw [if_pos h, if_pos h]
    · rw [if_pos h]
      split
      · rfl
      · rfl
  rw [hl]
  obtain ⟨xv, rfl, xa, xc, rfl, _⟩ := hx
  have hsr := smallI_rng c0 c1
  obtain ⟨la, ln, lc, wh, is, hlook, _⟩ := h.look hsr.1 hsr.2
  have hB := (Below.refl w.heap.size w).alloc (Nat.le_refl _) (Obj.cells #[.slice xa x.lines.length xc, .bool x.whole] 24)
  have P1 := (false_upd hB).cell (cell1_of h) (fun h => h)
  have L1 := hlook _ (false_upd hB)
  clear hl hlook h
  go_enter Try.func27, Try.ntmps27
  rcases hk with hk | hk
  · go_wp2_with (first | (go_at_call 28; refine (Small_any _ c0 c1 _).mono ?_; rintro e w' ⟨rfl, rfl⟩) | (go_at_call 16; refine (RKnown_any c c0 c1 _).mono ?_; rw [hk]; rintro e w' ⟨rfl, rfl⟩))
    all_goals go_ret
    all_goals exact ⟨rfl, below_two _ _ _⟩
  · have hkn : knownN c = true := by subst hk; decide
    have h95 : (c == 95) = true := by simpa using hk
    rw [if_neg (by simp [hkn])]
    clear hk
    go_wp2_with (first | (go_at_call 28; refine (Small_any _ c0 c1 _).mono ?_; rintro e w' ⟨rfl, rfl⟩) | (go_at_call 16; refine (RKnown_any c c0 c1 _).mono ?_; rw [hkn]; rintro e w' ⟨rfl, rfl⟩))
    all_goals go_ret
    all_goals exact ⟨rfl, below_two _ _ _⟩

/-- From where the sizes are looked at on. -/
def LayPost (w : World) (p mb n : Nat) (M : Int → Option RegD) (c : Int) (x : RegD) (e : Ending) (w' : World) : Prop :=
  ∃ n' V', e = .returned (.int .u16 (layM M c x).1) ∧ RegsAt w' p mb n' V' (layM M c x).2 ∧ n' ≤ n + 2 ∧ Upd (fun k => k = mb) w w'

set_option maxHeartbeats 2000000 in
set_option maxRecDepth 100000 in
theorem lay_plain (p mb n : Nat) (V : Int → Option Value) (M : Int → Option RegD) (c : Int) (c0 : 0 ≤ c) (c1 : c ≤ 255) (v : Value) (x : RegD) (w : World) (h : RegsAt w p mb n V M) (hx : RegAt w v x) (hk : knownN c = true) (h95 : (c == 95) = false) (hn : n ≤ 1000000000) (hsx : x.lines.length ≤ 8796093021952)
    (hno : smallI c = c ∨ M (smallI c) = none) :
    Calls Try.prog 27 #[.pointer (some ⟨p, 0, none⟩), .int .u8 c, v] w (LayPost w p mb n M c x) := by
  have hlx : laidX M c x = x := by
    unfold laidX
    rcases hno with h | h
    · rw [if_pos h]
    · split
      · rfl
      · rw [h]
  have hl : layM M c x = if (20000 : Int) < wrap64 (sizeR x) then (112, M) else (0, setM (setM M (smallI c) (some x)) 34 (some x)) := by
    unfold layM
    rw [hlx, if_neg (by simp [hk]), if_neg (by simpa using h95)]
  have Hl := Lib.hid hl
  have hxx := hx
  obtain ⟨xv, rfl, xa, xc, rfl, _⟩ := hx
  have hlen := hsx
  have hsr := smallI_rng c0 c1
  obtain ⟨la, ln, lc, wh, is, hlook, his⟩ := h.look hsr.1 hsr.2
  have hno2 : smallI c = c ∨ ((smallI c == c) = false ∧ ¬ smallI c = c ∧ is = false) := by
    by_cases hs : smallI c = c
    · exact .inl hs
    · right
      rcases his with h | ⟨_, r, h, _⟩
      · exact ⟨by simpa using hs, hs, h.1⟩
      · rcases hno with h2 | h2
        · exact absurd h2 hs
        · rw [h] at h2; cases h2
  have hB := (Below.refl w.heap.size w).alloc (Nat.le_refl _) (Obj.cells #[.slice xa x.lines.length xc, .bool x.whole] 24)
  have P1 := (false_upd hB).cell (cell1_of h) (fun h => h)
  have L1 := hlook _ (false_upd hB)
  have HX := Lib.hid hxx
  have HR := Lib.hid h
  clear hlook h hlx hno his hxx
  unfold LayPost
  rw [hl]
  clear hl Hl
  obtain ⟨k, hkk⟩ : ∃ k, smallI c = k := ⟨_, rfl⟩
  rw [hkk] at hno2 L1 hsr ⊢
  have HK := Lib.hid hkk
  clear hkk
  go_enter Try.func27, Try.ntmps27
  rcases hno2 with rfl | ⟨hs, hs2, rfl⟩
  all_goals
    by_cases hbig : (20000 : Int) < wrap64 (sizeR x)
    · rw [if_pos hbig]
      go_wp2_with (first
        | (go_at_call 28; refine (Small_any _ c0 c1 _).mono ?_; rw [HK.out]; rintro e w' ⟨rfl, rfl⟩)
        | (go_at_call 16; refine (RKnown_any _ c0 c1 _).mono ?_; rw [hk]; rintro e w' ⟨rfl, rfl⟩)
        | (go_at_call 41
           have hB2 := below_two w (Obj.cells #[.slice xa x.lines.length xc, .bool x.whole] 24) (Obj.cells #[.slice la ln lc, .bool wh] 24)
           generalize (w.alloc (Obj.cells #[.slice xa x.lines.length xc, .bool x.whole] 24)).alloc (Obj.cells #[.slice la ln lc, .bool wh] 24) = W at *
           refine (size_any _ x _ (HX.out.below hB2) hlen).mono ?_
           rintro e w3 ⟨rfl, hb3⟩
           have hB3 := hB2.trans (hb3.mono hB2.size)))
      all_goals go_ret
      all_goals exact ⟨rfl, n, ⟨V, HR.out.below hB3⟩, by omega, (false_upd hB3).mono (fun _ _ h => h.elim)⟩
    · have hb2 : wrap64 (sizeR x) ≤ 20000 := by omega
      rw [if_neg hbig]
      go_wp2_with (first
        | (go_at_call 28; refine (Small_any _ c0 c1 _).mono ?_; rw [HK.out]; rintro e w' ⟨rfl, rfl⟩)
        | (go_at_call 16; refine (RKnown_any _ c0 c1 _).mono ?_; rw [hk]; rintro e w' ⟨rfl, rfl⟩)
        | (go_at_call 41
           have hB2 := below_two w (Obj.cells #[.slice xa x.lines.length xc, .bool x.whole] 24) (Obj.cells #[.slice la ln lc, .bool wh] 24)
           have hz0 := heap_old (heap_alloc_new w (Obj.cells #[.slice xa x.lines.length xc, .bool x.whole] 24)) (Obj.cells #[.slice la ln lc, .bool wh] 24)
           generalize (w.alloc (Obj.cells #[.slice xa x.lines.length xc, .bool x.whole] 24)).alloc (Obj.cells #[.slice la ln lc, .bool wh] 24) = W at *
           refine (size_any _ x _ (HX.out.below hB2) hlen).mono ?_
           rintro e w3 ⟨rfl, hb3⟩
           have hB3 := hB2.trans (hb3.mono hB2.size)
           have hz := (false_upd hb3).heap hz0 (fun h => h)
           clear hz0 hb3 hB2))
      have hR3 := HR.out.below hB3
      have hpm : p ≠ mb := hR3.ne
      have hmw : mb < w.heap.size := HR.out.map.lt
      have P3 := Lib.hid (cell1_of hR3)
      have Z0 := Lib.hid (cell_of hz 0 (v := .slice xa x.lines.length xc) rfl)
      have Z1 := Lib.hid (cell_of hz 1 (v := .bool x.whole) rfl)
      have hM0 : MapAt w3.drew mb n V := hR3.map.upd (Upd.refl (fun _ => False) w3).drew (fun h => h)
      have HR3 := Lib.hid hR3
      have HX3 := Lib.hid (HX.out.below hB3)
      clear hR3 hz P1 L1 hB
      refine wp_region_seq (fun v => Upd (fun j => j = mb) w3 v) (fun i => i != 99) [(0, true), (1, true), (2, true), (3, true), (4, true), (5, true), (6, true), (7, true), (8, true), (9, true), (10, true), (11, false), (12, true), (13, false), (14, false), (15, true), (16, false)] (by exact rfl) (by kernel_rfl) (by intro c a d v w h; cases d <;> exact h) ?_
      have hS : Upd (fun j => j = mb) w3 w3.drew := (Upd.refl _ _).drew
      (apply seq_val (o := { dst := some 41, op := Op.move (Operand.tmp 0), type := 30, pos := "regs.go:72", after := #[], guard := none }) rfl (by rfl); (focus (intro w' hS'; have s0 := hS'.cell P3.out hpm; have s1 := hS'.cell Z0.out (by show ¬ w.heap.size = mb; omega); have s2 := hS'.cell Z1.out (by show ¬ w.heap.size = mb; omega); go_simp; (first | done | exact rfl | (rw [if_pos (by omega)]; done)))); (focus exact hS))
      (try simp only [Act.put, List.setIfInBounds_toArray, List.set_cons_zero, List.set_cons_succ])
      (apply seq_val (o := { dst := some 42, op := Op.nilCheck (Operand.tmp 41), type := 0, pos := "regs.go:72", after := #[{ on := 0, ground := Ground.data }], guard := none }) rfl (by rfl); (focus (intro w' hS'; have s0 := hS'.cell P3.out hpm; have s1 := hS'.cell Z0.out (by show ¬ w.heap.size = mb; omega); have s2 := hS'.cell Z1.out (by show ¬ w.heap.size = mb; omega); go_simp; (first | done | exact rfl | (rw [if_pos (by omega)]; done)))); (focus exact hS))
      (try simp only [Act.put, List.setIfInBounds_toArray, List.set_cons_zero, List.set_cons_succ])
      (apply seq_val (o := { dst := some 43, op := Op.fieldAddr 56 (Operand.tmp 42) 0, type := 0, pos := "regs.go:72", after := #[{ on := 1, ground := Ground.data }], guard := none }) rfl (by rfl); (focus (intro w' hS'; have s0 := hS'.cell P3.out hpm; have s1 := hS'.cell Z0.out (by show ¬ w.heap.size = mb; omega); have s2 := hS'.cell Z1.out (by show ¬ w.heap.size = mb; omega); go_simp; (first | done | exact rfl | (rw [if_pos (by omega)]; done)))); (focus exact hS))
      (try simp only [Act.put, List.setIfInBounds_toArray, List.set_cons_zero, List.set_cons_succ])
      (apply seq_val (o := { dst := some 44, op := Op.load 54 (Operand.tmp 43), type := 54, pos := "regs.go:72", after := #[{ on := 2, ground := Ground.data }], guard := none }) rfl (by rfl); (focus (intro w' hS'; have s0 := hS'.cell P3.out hpm; have s1 := hS'.cell Z0.out (by show ¬ w.heap.size = mb; omega); have s2 := hS'.cell Z1.out (by show ¬ w.heap.size = mb; omega); go_simp; (first | done | exact rfl | (rw [if_pos (by omega)]; done)))); (focus exact hS))
      (try simp only [Act.put, List.setIfInBounds_toArray, List.set_cons_zero, List.set_cons_succ])
      (apply seq_val (o := { dst := some 45, op := Op.move (Operand.tmp 7), type := 5, pos := "regs.go:72", after := #[], guard := none }) rfl (by rfl); (focus (intro w' hS'; have s0 := hS'.cell P3.out hpm; have s1 := hS'.cell Z0.out (by show ¬ w.heap.size = mb; omega); have s2 := hS'.cell Z1.out (by show ¬ w.heap.size = mb; omega); go_simp; (first | done | exact rfl | (rw [if_pos (by omega)]; done)))); (focus exact hS))
      (try simp only [Act.put, List.setIfInBounds_toArray, List.set_cons_zero, List.set_cons_succ])
      (apply seq_val (o := { dst := some 46, op := Op.move (Operand.tmp 0), type := 30, pos := "regs.go:72", after := #[], guard := none }) rfl (by rfl); (focus (intro w' hS'; have s0 := hS'.cell P3.out hpm; have s1 := hS'.cell Z0.out (by show ¬ w.heap.size = mb; omega); have s2 := hS'.cell Z1.out (by show ¬ w.heap.size = mb; omega); go_simp; (first | done | exact rfl | (rw [if_pos (by omega)]; done)))); (focus exact hS))
      (try simp only [Act.put, List.setIfInBounds_toArray, List.set_cons_zero, List.set_cons_succ])
      (apply seq_val (o := { dst := some 47, op := Op.nilCheck (Operand.tmp 46), type := 0, pos := "regs.go:72", after := #[{ on := 5, ground := Ground.data }], guard := none }) rfl (by rfl); (focus (intro w' hS'; have s0 := hS'.cell P3.out hpm; have s1 := hS'.cell Z0.out (by show ¬ w.heap.size = mb; omega); have s2 := hS'.cell Z1.out (by show ¬ w.heap.size = mb; omega); go_simp; (first | done | exact rfl | (rw [if_pos (by omega)]; done)))); (focus exact hS))
      (try simp only [Act.put, List.setIfInBounds_toArray, List.set_cons_zero, List.set_cons_succ])
      (apply seq_val (o := { dst := some 48, op := Op.fieldAddr 56 (Operand.tmp 47) 0, type := 0, pos := "regs.go:72", after := #[{ on := 6, ground := Ground.data }], guard := none }) rfl (by rfl); (focus (intro w' hS'; have s0 := hS'.cell P3.out hpm; have s1 := hS'.cell Z0.out (by show ¬ w.heap.size = mb; omega); have s2 := hS'.cell Z1.out (by show ¬ w.heap.size = mb; omega); go_simp; (first | done | exact rfl | (rw [if_pos (by omega)]; done)))); (focus exact hS))
      (try simp only [Act.put, List.setIfInBounds_toArray, List.set_cons_zero, List.set_cons_succ])
      (apply seq_val (o := { dst := some 49, op := Op.load 54 (Operand.tmp 48), type := 54, pos := "regs.go:72", after := #[{ on := 7, ground := Ground.data }], guard := none }) rfl (by rfl); (focus (intro w' hS'; have s0 := hS'.cell P3.out hpm; have s1 := hS'.cell Z0.out (by show ¬ w.heap.size = mb; omega); have s2 := hS'.cell Z1.out (by show ¬ w.heap.size = mb; omega); go_simp; (first | done | exact rfl | (rw [if_pos (by omega)]; done)))); (focus exact hS))
      (try simp only [Act.put, List.setIfInBounds_toArray, List.set_cons_zero, List.set_cons_succ])
      (apply seq_val (o := { dst := some 50, op := Op.load 24 (Operand.tmp 5), type := 24, pos := "regs.go:72", after := #[{ on := 11, ground := Ground.gcOnly Departure.tupleMapEntryFirst }], guard := none }) rfl (by rfl); (focus (intro w' hS'; have s0 := hS'.cell P3.out hpm; have s1 := hS'.cell Z0.out (by show ¬ w.heap.size = mb; omega); have s2 := hS'.cell Z1.out (by show ¬ w.heap.size = mb; omega); go_simp; (first | done | exact rfl | (rw [if_pos (by omega)]; done)))); (focus exact hS))
      (try simp only [Act.put, List.setIfInBounds_toArray, List.set_cons_zero, List.set_cons_succ])
      (apply seq_val (o := { dst := some 51, op := Op.load 24 (Operand.tmp 5), type := 24, pos := "regs.go:72", after := #[{ on := 13, ground := Ground.gcOnly Departure.lateStores }, { on := 14, ground := Ground.gcOnly Departure.tupleMapEntryFirst }], guard := none }) rfl (by rfl); (focus (intro w' hS'; have s0 := hS'.cell P3.out hpm; have s1 := hS'.cell Z0.out (by show ¬ w.heap.size = mb; omega); have s2 := hS'.cell Z1.out (by show ¬ w.heap.size = mb; omega); go_simp; (first | done | exact rfl | (rw [if_pos (by omega)]; done)))); (focus exact hS))
      (try simp only [Act.put, List.setIfInBounds_toArray, List.set_cons_zero, List.set_cons_succ])
      refine seq_loud (o := { dst := some 52, op := Op.mapEntry 54 (Operand.tmp 44) (Operand.tmp 45), type := 0, pos := "regs.go:72", after := #[{ on := 3, ground := Ground.data }, { on := 4, ground := Ground.data }, { on := 0, ground := Ground.textOnly Departure.tupleMapEntryFirst }, { on := 1, ground := Ground.textOnly Departure.tupleMapEntryFirst }, { on := 2, ground := Ground.textOnly Departure.tupleMapEntryFirst }, { on := 3, ground := Ground.textOnly Departure.tupleMapEntryFirst }, { on := 4, ground := Ground.textOnly Departure.lateStoresUnsure }, { on := 5, ground := Ground.textOnly Departure.lateStores }, { on := 6, ground := Ground.textOnly Departure.lateStoresUnsure }, { on := 7, ground := Ground.textOnly Departure.lateStoresUnsure }, { on := 8, ground := Ground.phase }, { on := 9, ground := Ground.textOnly Departure.tupleMapEntryFirst }, { on := 10, ground := Ground.textOnly Departure.lateStores }], guard := none }) rfl (fun K hK => ?_)
      obtain ⟨v0, st, w4, hrun, hg, hst⟩ := hM0.entry (by unfold maxLen; omega) hsr.1 hsr.2; go_simp; clear hS; have hS : Upd (fun j => j = mb) w3 w4 := ((Upd.refl (fun j => j = mb) w3).drew).grown hg (fun j _ e => by cases e; rfl); refine hK _ _ (fun _ => hS) ?_; clear hK K hrun
      (try simp only [Act.put, List.setIfInBounds_toArray, List.set_cons_zero, List.set_cons_succ])
      (apply seq_val (o := { dst := some 53, op := Op.extract (Operand.tmp 52) 1, type := 3, pos := "regs.go:72", after := #[{ on := 11, ground := Ground.data }], guard := none }) rfl (by rfl); (focus (intro w' hS'; have s0 := hS'.cell P3.out hpm; have s1 := hS'.cell Z0.out (by show ¬ w.heap.size = mb; omega); have s2 := hS'.cell Z1.out (by show ¬ w.heap.size = mb; omega); go_simp; (first | done | exact rfl | (rw [if_pos (by omega)]; done)))); (focus exact hS))
      (try simp only [Act.put, List.setIfInBounds_toArray, List.set_cons_zero, List.set_cons_succ])
      refine seq_loud (o := { dst := none, op := Op.entryStore 54 (Operand.tmp 44) (Operand.tmp 53) (Operand.tmp 50), type := 0, pos := "regs.go:72", after := #[{ on := 3, ground := Ground.data }, { on := 12, ground := Ground.data }, { on := 9, ground := Ground.data }, { on := 11, ground := Ground.chain }, { on := 0, ground := Ground.phase }, { on := 1, ground := Ground.phase }, { on := 2, ground := Ground.phase }, { on := 3, ground := Ground.phase }, { on := 4, ground := Ground.phase }, { on := 5, ground := Ground.textOnly Departure.lateStores }, { on := 6, ground := Ground.textOnly Departure.lateStoresUnsure }, { on := 7, ground := Ground.textOnly Departure.lateStoresUnsure }, { on := 8, ground := Ground.phase }, { on := 9, ground := Ground.phase }, { on := 10, ground := Ground.textOnly Departure.lateStores }, { on := 11, ground := Ground.phase }], guard := none }) rfl (fun K hK => ?_)
      obtain ⟨w5, hrun, hM5, hg5⟩ := hst (.agg #[.slice xa x.lines.length xc, .bool x.whole]); simp only [goInt] at hrun; go_simp; clear hS; have hS : Upd (fun j => j = mb) w3 w5 := ((Upd.refl (fun j => j = mb) w3).drew).grown hg5 (fun j _ e => by cases e; rfl); have HS5 := Lib.hid hS; refine hK _ _ (fun _ => hS) ?_; clear hK K hrun
      (try simp only [Act.put, List.setIfInBounds_toArray, List.set_cons_zero, List.set_cons_succ])
      refine seq_loud (o := { dst := some 54, op := Op.mapEntry 54 (Operand.tmp 49) (Operand.const (Value.int IntKind.u8 34)), type := 0, pos := "regs.go:72", after := #[{ on := 8, ground := Ground.data }, { on := 13, ground := Ground.chain }, { on := 0, ground := Ground.phase }, { on := 1, ground := Ground.phase }, { on := 2, ground := Ground.phase }, { on := 3, ground := Ground.phase }, { on := 4, ground := Ground.phase }, { on := 5, ground := Ground.textOnly Departure.tupleMapEntryFirst }, { on := 6, ground := Ground.textOnly Departure.lateStoresUnsure }, { on := 7, ground := Ground.textOnly Departure.lateStoresUnsure }, { on := 8, ground := Ground.phase }, { on := 9, ground := Ground.phase }, { on := 10, ground := Ground.textOnly Departure.tupleMapEntryFirst }, { on := 11, ground := Ground.phase }, { on := 12, ground := Ground.phase }, { on := 13, ground := Ground.phase }], guard := none }) rfl (fun K hK => ?_)
      obtain ⟨v1, st1, w6, hrun, hg6, hst1⟩ := hM5.entry (by unfold maxLen; omega) (k := 34) (by decide) (by decide); go_simp; clear hS; have hS : Upd (fun j => j = mb) w3 w6 := HS5.out.grown hg6 (fun j _ e => by cases e; rfl); refine hK _ _ (fun _ => hS) ?_; clear hK K hrun
      (try simp only [Act.put, List.setIfInBounds_toArray, List.set_cons_zero, List.set_cons_succ])
      (apply seq_val (o := { dst := some 55, op := Op.extract (Operand.tmp 54) 1, type := 3, pos := "regs.go:72", after := #[{ on := 14, ground := Ground.data }], guard := none }) rfl (by rfl); (focus (intro w' hS'; have s0 := hS'.cell P3.out hpm; have s1 := hS'.cell Z0.out (by show ¬ w.heap.size = mb; omega); have s2 := hS'.cell Z1.out (by show ¬ w.heap.size = mb; omega); go_simp; (first | done | exact rfl | (rw [if_pos (by omega)]; done)))); (focus exact hS))
      (try simp only [Act.put, List.setIfInBounds_toArray, List.set_cons_zero, List.set_cons_succ])
      refine seq_loud (o := { dst := none, op := Op.entryStore 54 (Operand.tmp 49) (Operand.tmp 55) (Operand.tmp 51), type := 0, pos := "regs.go:72", after := #[{ on := 8, ground := Ground.data }, { on := 15, ground := Ground.data }, { on := 10, ground := Ground.data }, { on := 14, ground := Ground.chain }, { on := 0, ground := Ground.phase }, { on := 1, ground := Ground.phase }, { on := 2, ground := Ground.phase }, { on := 3, ground := Ground.phase }, { on := 4, ground := Ground.phase }, { on := 5, ground := Ground.phase }, { on := 6, ground := Ground.phase }, { on := 7, ground := Ground.phase }, { on := 8, ground := Ground.phase }, { on := 9, ground := Ground.phase }, { on := 10, ground := Ground.phase }, { on := 11, ground := Ground.phase }, { on := 12, ground := Ground.phase }, { on := 13, ground := Ground.phase }, { on := 14, ground := Ground.phase }], guard := none }) rfl (fun K hK => ?_)
      obtain ⟨w7, hrun, hM7, hg7⟩ := hst1 (.agg #[.slice xa x.lines.length xc, .bool x.whole]); simp only [goInt] at hrun; go_simp; clear hS; have hS : Upd (fun j => j = mb) w3 w7 := HS5.out.grown hg7 (fun j _ e => by cases e; rfl); have hS57 : Upd (fun j => j = mb) w5 w7 := (Upd.refl (fun j => j = mb) w5).grown hg7 (fun j _ e => by cases e; rfl); refine hK _ _ (fun _ => hS) ?_; clear hK K hrun
      (try simp only [Act.put, List.setIfInBounds_toArray, List.set_cons_zero, List.set_cons_succ])
      refine seq_nil ?_
      have hR5 := HR3.out.set hM5 HS5.out HX3.out ⟨hb2, hsx⟩
      have hR7 := hR5.set hM7 hS57 (HX3.out.upd HS5.out HR3.out.nocell) ⟨hb2, hsx⟩
      go_wp2
      go_ret
      exact ⟨rfl, n + 1 + 1, ⟨_, hR7⟩, by omega, ((false_upd hB3).mono (fun _ _ h => h.elim)).then hS (fun _ _ h => h)⟩
end Go.Proofs.Ytlhcojclfgbobaa
