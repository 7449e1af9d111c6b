/- Contract of Cut of package regs. -/
import Derived.Test.YtlhcojclfgbobaaRegI
namespace Go.Proofs.Ytlhcojclfgbobaa
open Go.RowKit

theorem RegsAt.unset {w w2 : World} {p mb n n2 : Nat} {V : Int → Option Value} {M : Int → Option RegD} {k : Int} (h : RegsAt w p mb n V M) (hm : MapAt w2 mb n2 (setM V k none)) (hu : Upd (fun j => j = mb) w w2) :
    RegsAt w2 p mb n2 (setM V k none) (setM M k none) := by
  refine ⟨hu.heap h.blk h.ne, hm, fun c c0 c1 => ?_, fun c r hr => ?_⟩
  · by_cases hc : c = k
    · exact .inl ⟨by simp [setM, hc], by simp [setM, hc]⟩
    · rcases h.el c c0 c1 with ⟨h1, h2⟩ | ⟨u, r, h1, h2, h3⟩
      · exact .inl ⟨by simp [setM, hc, h1], by simp [setM, hc, h2]⟩
      · exact .inr ⟨u, r, by simp [setM, hc, h1], by simp [setM, hc, h2], h3.upd hu h.nocell⟩
  · by_cases hc : c = k
    · simp [setM, hc] at hr
    · simp only [setM, hc, if_false] at hr
      exact h.short c r hr

/-- Those from j on (up to 9) have what the one ahead had. -/
def shM (M : Int → Option RegD) (j : Int) : Int → Option RegD := fun k => if j < k ∧ k ≤ 57 then M (k - 1) else M k
theorem shM_start (M : Int → Option RegD) : shM M 57 = M := by
  funext k; unfold shM; rw [if_neg (by omega)]
theorem shM_ahead (M : Int → Option RegD) (j : Int) : shM M j (j - 1) = M (j - 1) := by
  unfold shM; rw [if_neg (by omega)]
theorem shM_step (M : Int → Option RegD) (j : Int) (h : j ≤ 57) : setM (shM M j) j (M (j - 1)) = shM M (j - 1) := by
  funext k
  unfold setM shM
  by_cases hk : k = j
  · subst hk; rw [if_pos rfl, if_pos (by omega)]
  · rw [if_neg hk]
    by_cases h2 : j < k ∧ k ≤ 57
    · rw [if_pos h2, if_pos (by omega)]
    · rw [if_neg h2, if_neg (by omega)]

/-- Cut. -/
def cutM (M : Int → Option RegD) (c : Int) (x : RegD) : Int × (Int → Option RegD) :=
  ((layM M c x.clone).1, if (layM M c x.clone).1 = 0 ∧ c = 34 then setM (shM (layM M c x.clone).2 49) 49 (some x.clone) else (layM M c x.clone).2)

set_option maxHeartbeats 1000000 in
set_option maxRecDepth 100000 in
theorem Cut_any (p mb n : Nat) (V : Int → Option Value) (M : Int → Option RegD) (c : Int) (c0 : 0 ≤ c) (c1 : c ≤ 255) (v : Value) (x : RegD) (w : World) (h : RegsAt w p mb n V M) (hx : RegAt w v x) (hn : n ≤ 900000000) (hsx : x.lines.length ≤ 8796093021952) (hold : ∀ r, smallI c ≠ c → M (smallI c) = some r → sizeR r ≤ 900000000 ∧ sizeR x ≤ 900000000) :
    Calls Try.prog 15 #[.pointer (some ⟨p, 0, none⟩), .int .u8 c, v] w (YankPost w p mb n (cutM M c x)) := by
  have hcl := RegD.clone_len hsx (by omega)
  have hlx := hsx
  have Hold : Hid (∀ r, smallI c ≠ c → M (smallI c) = some r → sizeR r ≤ 1000000000 ∧ sizeR x.clone ≤ 1000000000) := Lib.hid (fun r h1 h2 => ⟨by have := (hold r h1 h2).1; omega, by have := RegD.clone_size (hold r h1 h2).2 (by omega); omega⟩)
  clear hold
  have HX := Lib.hid hx
  obtain ⟨xv, rfl, xa, xc, rfl, _⟩ := hx
  have HR := Lib.hid h
  have hne := x.clone_ne
  unfold YankPost cutM
  have hz34 : c = 34 → (layM M c x.clone).1 = 0 → wrap64 (sizeR x.clone) ≤ 20000 := by
    intro e h0
    subst e
    rw [layM_34] at h0
    split at h0
    · cases h0
    · omega
  obtain ⟨E, M', hL⟩ : ∃ E M', layM M c x.clone = (E, M') := ⟨_, _, rfl⟩
  rw [hL] at hz34 ⊢
  simp only at hz34 ⊢
  have HL := Lib.hid hL
  have Hz := Lib.hid hz34
  have hmw : mb < w.heap.size := h.map.lt
  clear h hL hz34
  go_enter Try.func15, Try.ntmps15
  by_cases hfin : E = 0 ∧ c = 34
  · rw [if_pos hfin]
    obtain ⟨rfl, rfl⟩ := hfin
    go_wp2_with (first
      | (go_at_call 26
         obtain ⟨W, hW, hz0, hB2⟩ : ∃ W, w.alloc (Obj.cells #[.slice xa x.lines.length xc, .bool x.whole] 24) = W ∧ W.heap[w.heap.size]? = some (.cells #[.slice xa x.lines.length xc, .bool x.whole] 24 (0, 0)) ∧ Below w.heap.size w W := ⟨_, rfl, heap_alloc_new _ _, (Below.refl _ _).alloc (Nat.le_refl _) _⟩
         rw [hW]
         refine (clone_any _ x _ (HX.out.below hB2) hlx).mono ?_
         rintro e w3 ⟨u, rfl, ho, hb3⟩
         obtain ⟨g, cg, rfl, hg0, hg1, hown⟩ := ho.form hne
         have hB3 := hB2.trans (hb3.mono hB2.size)
         have hz := (false_upd hb3).heap hz0 (fun h => h)
         have hlt := heap_lt hz0
         have z0 := cell_of hz 0 (v := .slice xa x.lines.length xc) rfl
         have z1 := cell_of hz 1 (v := .bool x.whole) rfl
         have f0 := free_of hz 0
         have f1 := free_of hz 1
         clear hz0 hb3 hB2 ho hW)
      | (go_at_call 27
         obtain ⟨w4, hw4, hz4, hu4, hs4⟩ := store_two hz (Value.slice (some ⟨g, 0, none⟩) x.clone.lines.length cg) (Value.bool x.clone.whole)
         rw [hw4]
         have hB4 : Below w.heap.size w w4 := hB3.trans (hu4.below (by have := hB3.size; omega) (fun k hk e => by omega))
         have hy4 : RegAt w4 (.agg #[.slice (some ⟨g, 0, none⟩) x.clone.lines.length cg, .bool x.clone.whole]) x.clone := ⟨_, rfl, StrsAt.of_owns (ownsRow_upd hown hu4 (fun j hj => by simp [Value.ownBlock] at hj; omega))⟩
         have h4 : RegsAt w4 p mb n V M := HR.out.below hB4
         clear hw4 hu4 z0 z1 f0 f1 hz hB3 hown
         refine (lay_any p mb n V M _ c0 c1 _ x.clone w4 h4 hy4 (by omega) hcl Hold.out).mono ?_
         unfold LayPost
         rw [HL.out]
         rintro e w5 ⟨n1, V1, rfl, hR5, hn1, hU5⟩
         have hz5 := hU5.heap hz4 (by omega)
         have hy5 := hy4.upd hU5 h4.nocell
         have hUw : Upd (fun k => k = mb) w w5 := ((false_upd hB4).mono (fun _ _ h => h.elim)).then hU5 (fun _ _ h => h)
         clear hz4 hy4 h4 hU5 hB4 hs4))
    have hpm : p ≠ mb := hR5.ne
    go_loopw [8, 9, 10] (fun cv ov iv wr => ∃ (j : Int) (n2 : Nat) (V2 : Int → Option Value), 49 ≤ j ∧ j ≤ 57 ∧ cv = .int .u8 j ∧ RegsAt wr p mb n2 V2 (shM M' j) ∧ n2 + j.toNat ≤ n1 + 57 ∧ Upd (fun k => k = mb) w5 wr) (fun cv ov iv _ => (intOf cv).toNat)
    case atStart => exact ⟨57, n1, V1, by omega, by omega, rfl, by rw [shM_start]; exact hR5, by omega, Upd.refl _ _⟩
    case round =>
      obtain ⟨j, n2, V2, hj1, hj2, rfl, hR, hnj, hU⟩ := hrel
      by_cases hlt : 49 < j
      · obtain ⟨la, ln, lc, wh, is, hlook, his⟩ := hR.look (c := j - 1) (by omega) (by omega)
        rw [shM_ahead] at his
        have L1 := hlook wr (Upd.refl _ _)
        have P1 := cell1_of hR
        have hB6 := (Below.refl wr.heap.size wr).alloc (Nat.le_refl _) (Obj.cells #[.slice la ln lc, .bool wh] 24)
        have hR6 := hR.below hB6
        have P6 := cell1_of hR6
        have HB6 := Lib.hid hB6
        have HRw := Lib.hid hR
        have hmr : mb < wr.heap.size := hR.map.lt
        clear hlook hR hB6
        cases is
        · have hMn : M' (j - 1) = none := by
            rcases his with h | ⟨e, _⟩
            · exact h.2
            · cases e
          obtain ⟨w7, hrun, hM7, hg7⟩ := hR6.map.drop (k := j) (by omega) (by omega) 0
          have hU7 : Upd (fun k => k = mb) (wr.alloc (Obj.cells #[.slice la ln lc, .bool wh] 24)) w7 := (Upd.refl (fun k => k = mb) _).grown hg7 (fun k _ e => by cases e; rfl)
          have hR7 := hR6.unset hM7 hU7
          have he : setM (shM M' j) j none = shM M' (j - 1) := by rw [← hMn]; exact shM_step M' j (by omega)
          rw [he] at hR7
          have HR7 := Lib.hid hR7
          have HU7 := Lib.hid hU7
          clear hR6 hM7 hg7 hR7 hU7 he his
          go_wp2
          go_roundw
          case rel => exact ⟨j - 1, n2, _, by omega, by omega, rfl, HR7.out, by omega, hU.then (((false_upd HB6.out).mono (fun _ _ h => h.elim)).then HU7.out (fun _ _ h => h)) (fun _ _ h => h)⟩
          case measure => simp [intOf]; omega
        · obtain ⟨r0, hMs, hr0⟩ : ∃ r0, M' (j - 1) = some r0 ∧ RegAt wr (.agg #[.slice la ln lc, .bool wh]) r0 := by
            rcases his with h | ⟨_, r0, h1, h2⟩
            · cases h.1
            · exact ⟨r0, h1, h2⟩
          have hsz0 := HRw.out.short (j - 1) r0 (by rw [shM_ahead]; exact hMs)
          have hz6 : (wr.alloc (Obj.cells #[.slice la ln lc, .bool wh] 24)).heap[wr.heap.size]? = some (.cells #[.slice la ln lc, .bool wh] 24 (0, 0)) := heap_alloc_new _ _
          clear his
          go_wp2
          generalize wr.alloc (Obj.cells #[.slice la ln lc, .bool wh] 24) = w6 at *
          have hM0 : MapAt w6.drew mb n2 V2 := hR6.map.upd (Upd.refl (fun _ => False) w6).drew (fun h => h)
          have hpm2 : p ≠ mb := hR6.ne
          have P3 := Lib.hid P6
          have Z0 := Lib.hid (cell_of hz6 0 (v := .slice la ln lc) rfl)
          have Z1 := Lib.hid (cell_of hz6 1 (v := .bool wh) rfl)
          have HR6 := Lib.hid hR6
          clear hR6 hz6 P6 P1 L1
          refine wp_region_seq (fun v => Upd (fun k => k = mb) w6 v) (fun i => i != 99) [(0, true), (1, true), (2, true), (3, true), (4, true), (5, true), (6, false)] (by exact rfl) (by kernel_rfl) (by intro c a d v w h; cases d <;> exact h) ?_
          have hS : Upd (fun k => k = mb) w6 w6.drew := (Upd.refl _ _).drew
          (apply seq_val (o := { dst := some 39, op := Op.move (Operand.tmp 0), type := 30, pos := "regs.go:95", after := #[], guard := none }) rfl (by rfl); (focus (intro w' hS'; have s0 := hS'.cell P3.out hpm2; have s1 := hS'.cell Z0.out (by show ¬ wr.heap.size = mb; omega); have s2 := hS'.cell Z1.out (by show ¬ wr.heap.size = mb; omega); go_simp; (first | done | exact rfl | (rw [if_pos (by omega)]; done)))); (focus exact hS))
          (try simp only [Act.put, List.setIfInBounds_toArray, List.set_cons_zero, List.set_cons_succ])
          (apply seq_val (o := { dst := some 40, op := Op.nilCheck (Operand.tmp 39), type := 0, pos := "regs.go:95", after := #[{ on := 0, ground := Ground.data }], guard := none }) rfl (by rfl); (focus (intro w' hS'; have s0 := hS'.cell P3.out hpm2; have s1 := hS'.cell Z0.out (by show ¬ wr.heap.size = mb; omega); have s2 := hS'.cell Z1.out (by show ¬ wr.heap.size = mb; omega); go_simp; (first | done | exact rfl | (rw [if_pos (by omega)]; done)))); (focus exact hS))
          (try simp only [Act.put, List.setIfInBounds_toArray, List.set_cons_zero, List.set_cons_succ])
          (apply seq_val (o := { dst := some 41, op := Op.fieldAddr 56 (Operand.tmp 40) 0, type := 0, pos := "regs.go:95", after := #[{ on := 1, ground := Ground.data }], guard := none }) rfl (by rfl); (focus (intro w' hS'; have s0 := hS'.cell P3.out hpm2; have s1 := hS'.cell Z0.out (by show ¬ wr.heap.size = mb; omega); have s2 := hS'.cell Z1.out (by show ¬ wr.heap.size = mb; omega); go_simp; (first | done | exact rfl | (rw [if_pos (by omega)]; done)))); (focus exact hS))
          (try simp only [Act.put, List.setIfInBounds_toArray, List.set_cons_zero, List.set_cons_succ])
          (apply seq_val (o := { dst := some 42, op := Op.load 54 (Operand.tmp 41), type := 54, pos := "regs.go:95", after := #[{ on := 2, ground := Ground.data }], guard := none }) rfl (by rfl); (focus (intro w' hS'; have s0 := hS'.cell P3.out hpm2; have s1 := hS'.cell Z0.out (by show ¬ wr.heap.size = mb; omega); have s2 := hS'.cell Z1.out (by show ¬ wr.heap.size = mb; omega); go_simp; (first | done | exact rfl | (rw [if_pos (by omega)]; done)))); (focus exact hS))
          (try simp only [Act.put, List.setIfInBounds_toArray, List.set_cons_zero, List.set_cons_succ])
          (apply seq_val (o := { dst := some 43, op := Op.move (Operand.tmp 8), type := 5, pos := "regs.go:95", after := #[], guard := none }) rfl (by rfl); (focus (intro w' hS'; have s0 := hS'.cell P3.out hpm2; have s1 := hS'.cell Z0.out (by show ¬ wr.heap.size = mb; omega); have s2 := hS'.cell Z1.out (by show ¬ wr.heap.size = mb; omega); go_simp; (first | done | exact rfl | (rw [if_pos (by omega)]; done)))); (focus exact hS))
          (try simp only [Act.put, List.setIfInBounds_toArray, List.set_cons_zero, List.set_cons_succ])
          (apply seq_val (o := { dst := some 44, op := Op.load 24 (Operand.tmp 9), type := 24, pos := "regs.go:95", after := #[], guard := none }) rfl (by rfl); (focus (intro w' hS'; have s0 := hS'.cell P3.out hpm2; have s1 := hS'.cell Z0.out (by show ¬ wr.heap.size = mb; omega); have s2 := hS'.cell Z1.out (by show ¬ wr.heap.size = mb; omega); go_simp; (first | done | exact rfl | (rw [if_pos (by omega)]; done)))); (focus exact hS))
          (try simp only [Act.put, List.setIfInBounds_toArray, List.set_cons_zero, List.set_cons_succ])
          refine seq_loud (o := { dst := none, op := Op.mapUpdate 54 (Operand.tmp 42) (Operand.tmp 43) (Operand.tmp 44), type := 0, pos := "regs.go:95", after := #[{ on := 3, ground := Ground.data }, { on := 4, ground := Ground.data }, { on := 5, ground := Ground.data }, { on := 0, ground := Ground.phase }, { on := 1, ground := Ground.phase }, { on := 2, ground := Ground.phase }, { on := 3, ground := Ground.phase }, { on := 4, ground := Ground.phase }, { on := 5, ground := Ground.phase }], guard := none }) rfl (fun K hK => ?_)
          obtain ⟨w7, hrun, hM7, hg7⟩ := hM0.store (by unfold maxLen; omega) (k := j) (by omega) (by omega) (.agg #[.slice la ln lc, .bool wh]); go_simp; clear hS; have hS : Upd (fun k => k = mb) w6 w7 := ((Upd.refl (fun k => k = mb) w6).drew).grown hg7 (fun k _ e => by cases e; rfl); refine hK _ _ (fun _ => hS) ?_; clear hK K hrun
          (try simp only [Act.put, List.setIfInBounds_toArray, List.set_cons_zero, List.set_cons_succ])
          refine seq_nil ?_
          have hR7 := HR6.out.set hM7 hS (hr0.below HB6.out) hsz0
          have he : setM (shM M' j) j (some r0) = shM M' (j - 1) := by rw [← hMs]; exact shM_step M' j (by omega)
          rw [he] at hR7
          have HR7 := Lib.hid hR7
          clear hR7 he hM0 hM7
          go_wp2
          go_roundw
          case rel => exact ⟨j - 1, n2 + 1, _, by omega, by omega, rfl, HR7.out, by omega, hU.then (((false_upd HB6.out).mono (fun _ _ h => h.elim)).then hS (fun _ _ h => h)) (fun _ _ h => h)⟩
          case measure => simp [intOf]; omega
      · obtain rfl : j = 49 := by omega
        have hz9 := hU.heap hz5 (by omega)
        have hy9 := hy5.upd hU hR5.nocell
        go_wp2
        have hM0 : MapAt wr.drew mb n2 V2 := hR.map.upd (Upd.refl (fun _ => False) wr).drew (fun h => h)
        have P3 := Lib.hid (cell1_of hR)
        have Z0 := Lib.hid (cell_of hz9 0 (v := .slice (some ⟨g, 0, none⟩) x.clone.lines.length cg) rfl)
        have Z1 := Lib.hid (cell_of hz9 1 (v := .bool x.clone.whole) rfl)
        have HRr := Lib.hid hR
        have HX9 := Lib.hid hy9
        clear hR hz9 hy9 hR5 hz5 hy5
        refine wp_region_seq (fun v => Upd (fun k => k = mb) wr v) (fun i => i != 99) [(0, true), (1, true), (2, true), (3, true), (4, true), (5, false)] (by exact rfl) (by kernel_rfl) (by intro c a d v w h; cases d <;> exact h) ?_
        have hS : Upd (fun k => k = mb) wr wr.drew := (Upd.refl _ _).drew
        (apply seq_val (o := { dst := some 50, op := Op.move (Operand.tmp 0), type := 30, pos := "regs.go:100", after := #[], guard := none }) rfl (by rfl); (focus (intro w' hS'; have s0 := hS'.cell P3.out hpm; have s1 := hS'.cell Z0.out (by show ¬ w.heap.size = mb; omega); have s2 := hS'.cell Z1.out (by show ¬ w.heap.size = mb; omega); go_simp; (first | done | exact rfl | (rw [if_pos (by omega)]; done)))); (focus exact hS))
        (try simp only [Act.put, List.setIfInBounds_toArray, List.set_cons_zero, List.set_cons_succ])
        (apply seq_val (o := { dst := some 51, op := Op.nilCheck (Operand.tmp 50), type := 0, pos := "regs.go:100", after := #[{ on := 0, ground := Ground.data }], guard := none }) rfl (by rfl); (focus (intro w' hS'; have s0 := hS'.cell P3.out hpm; have s1 := hS'.cell Z0.out (by show ¬ w.heap.size = mb; omega); have s2 := hS'.cell Z1.out (by show ¬ w.heap.size = mb; omega); go_simp; (first | done | exact rfl | (rw [if_pos (by omega)]; done)))); (focus exact hS))
        (try simp only [Act.put, List.setIfInBounds_toArray, List.set_cons_zero, List.set_cons_succ])
        (apply seq_val (o := { dst := some 52, op := Op.fieldAddr 56 (Operand.tmp 51) 0, type := 0, pos := "regs.go:100", after := #[{ on := 1, ground := Ground.data }], guard := none }) rfl (by rfl); (focus (intro w' hS'; have s0 := hS'.cell P3.out hpm; have s1 := hS'.cell Z0.out (by show ¬ w.heap.size = mb; omega); have s2 := hS'.cell Z1.out (by show ¬ w.heap.size = mb; omega); go_simp; (first | done | exact rfl | (rw [if_pos (by omega)]; done)))); (focus exact hS))
        (try simp only [Act.put, List.setIfInBounds_toArray, List.set_cons_zero, List.set_cons_succ])
        (apply seq_val (o := { dst := some 53, op := Op.load 54 (Operand.tmp 52), type := 54, pos := "regs.go:100", after := #[{ on := 2, ground := Ground.data }], guard := none }) rfl (by rfl); (focus (intro w' hS'; have s0 := hS'.cell P3.out hpm; have s1 := hS'.cell Z0.out (by show ¬ w.heap.size = mb; omega); have s2 := hS'.cell Z1.out (by show ¬ w.heap.size = mb; omega); go_simp; (first | done | exact rfl | (rw [if_pos (by omega)]; done)))); (focus exact hS))
        (try simp only [Act.put, List.setIfInBounds_toArray, List.set_cons_zero, List.set_cons_succ])
        (apply seq_val (o := { dst := some 54, op := Op.load 24 (Operand.tmp 5), type := 24, pos := "regs.go:100", after := #[], guard := none }) rfl (by rfl); (focus (intro w' hS'; have s0 := hS'.cell P3.out hpm; have s1 := hS'.cell Z0.out (by show ¬ w.heap.size = mb; omega); have s2 := hS'.cell Z1.out (by show ¬ w.heap.size = mb; omega); go_simp; (first | done | exact rfl | (rw [if_pos (by omega)]; done)))); (focus exact hS))
        (try simp only [Act.put, List.setIfInBounds_toArray, List.set_cons_zero, List.set_cons_succ])
        refine seq_loud (o := { dst := none, op := Op.mapUpdate 54 (Operand.tmp 53) (Operand.const (Value.int IntKind.u8 49)) (Operand.tmp 54), type := 0, pos := "regs.go:100", after := #[{ on := 3, ground := Ground.data }, { on := 4, ground := Ground.data }, { on := 0, ground := Ground.phase }, { on := 1, ground := Ground.phase }, { on := 2, ground := Ground.phase }, { on := 3, ground := Ground.phase }, { on := 4, ground := Ground.phase }], guard := none }) rfl (fun K hK => ?_)
        obtain ⟨w7, hrun, hM7, hg7⟩ := hM0.store (by unfold maxLen; omega) (k := 49) (by decide) (by decide) (.agg #[.slice (some ⟨g, 0, none⟩) x.clone.lines.length cg, .bool x.clone.whole]); go_simp; clear hS; have hS : Upd (fun k => k = mb) wr w7 := ((Upd.refl (fun k => k = mb) wr).drew).grown hg7 (fun k _ e => by cases e; rfl); refine hK _ _ (fun _ => hS) ?_; clear hK K hrun
        (try simp only [Act.put, List.setIfInBounds_toArray, List.set_cons_zero, List.set_cons_succ])
        refine seq_nil ?_
        have hR7 := HRr.out.set hM7 hS HX9.out ⟨by simpa using Hz.out, hcl⟩
        go_wp2
        go_ret
        exact ⟨n2 + 1, _, rfl, hR7, by omega, (hUw.then hU (fun _ _ h => h)).then hS (fun _ _ h => h)⟩
  · rw [if_neg hfin]
    by_cases h34 : c = 34
    · have hE : (E == 0) = false := by simp; intro e; exact hfin ⟨e, h34⟩
      have hE2 : (E != 0) = true := by simp; intro e; exact hfin ⟨e, h34⟩
      subst h34
      clear hfin
      go_wp2_with (first
        | (go_at_call 26
           obtain ⟨W, hW, hz0, hB2⟩ : ∃ W, w.alloc (Obj.cells #[.slice xa x.lines.length xc, .bool x.whole] 24) = W ∧ W.heap[w.heap.size]? = some (.cells #[.slice xa x.lines.length xc, .bool x.whole] 24 (0, 0)) ∧ Below w.heap.size w W := ⟨_, rfl, heap_alloc_new _ _, (Below.refl _ _).alloc (Nat.le_refl _) _⟩
           rw [hW]
           refine (clone_any _ x _ (HX.out.below hB2) hlx).mono ?_
           rintro e w3 ⟨u, rfl, ho, hb3⟩
           obtain ⟨g, cg, rfl, hg0, hg1, hown⟩ := ho.form hne
           have hB3 := hB2.trans (hb3.mono hB2.size)
           have hz := (false_upd hb3).heap hz0 (fun h => h)
           have hlt := heap_lt hz0
           have z0 := cell_of hz 0 (v := .slice xa x.lines.length xc) rfl
           have z1 := cell_of hz 1 (v := .bool x.whole) rfl
           have f0 := free_of hz 0
           have f1 := free_of hz 1
           clear hz0 hb3 hB2 ho hW)
        | (go_at_call 27
           obtain ⟨w4, hw4, hz4, hu4, hs4⟩ := store_two hz (Value.slice (some ⟨g, 0, none⟩) x.clone.lines.length cg) (Value.bool x.clone.whole)
           rw [hw4]
           have hB4 : Below w.heap.size w w4 := hB3.trans (hu4.below (by have := hB3.size; omega) (fun k hk e => by omega))
           have hy4 : RegAt w4 (.agg #[.slice (some ⟨g, 0, none⟩) x.clone.lines.length cg, .bool x.clone.whole]) x.clone := ⟨_, rfl, StrsAt.of_owns (ownsRow_upd hown hu4 (fun j hj => by simp [Value.ownBlock] at hj; omega))⟩
           have h4 : RegsAt w4 p mb n V M := HR.out.below hB4
           clear hw4 hu4 z0 z1 f0 f1 hz hB3 hown
           refine (lay_any p mb n V M _ c0 c1 _ x.clone w4 h4 hy4 (by omega) hcl Hold.out).mono ?_
           unfold LayPost
           rw [HL.out]
           rintro e w5 ⟨n1, V1, rfl, hR5, hn1, hU5⟩
           have hz5 := hU5.heap hz4 (by omega)
           have hy5 := hy4.upd hU5 h4.nocell
           have hUw : Upd (fun k => k = mb) w w5 := ((false_upd hB4).mono (fun _ _ h => h.elim)).then hU5 (fun _ _ h => h)
           clear hz4 hy4 h4 hU5 hB4 hs4))
      all_goals go_ret
      all_goals first | exact ⟨n1, _, rfl, hR5, by omega, hUw⟩ | exact ⟨n1, _, by rw [‹E = 0›]; rfl, hR5, by omega, hUw⟩
    · have h34' : (c == 34) = false := by simpa using h34
      have h34'' : (c != 34) = true := by simpa using h34
      clear hfin h34
      go_wp2_with (first
        | (go_at_call 26
           obtain ⟨W, hW, hz0, hB2⟩ : ∃ W, w.alloc (Obj.cells #[.slice xa x.lines.length xc, .bool x.whole] 24) = W ∧ W.heap[w.heap.size]? = some (.cells #[.slice xa x.lines.length xc, .bool x.whole] 24 (0, 0)) ∧ Below w.heap.size w W := ⟨_, rfl, heap_alloc_new _ _, (Below.refl _ _).alloc (Nat.le_refl _) _⟩
           rw [hW]
           refine (clone_any _ x _ (HX.out.below hB2) hlx).mono ?_
           rintro e w3 ⟨u, rfl, ho, hb3⟩
           obtain ⟨g, cg, rfl, hg0, hg1, hown⟩ := ho.form hne
           have hB3 := hB2.trans (hb3.mono hB2.size)
           have hz := (false_upd hb3).heap hz0 (fun h => h)
           have hlt := heap_lt hz0
           have z0 := cell_of hz 0 (v := .slice xa x.lines.length xc) rfl
           have z1 := cell_of hz 1 (v := .bool x.whole) rfl
           have f0 := free_of hz 0
           have f1 := free_of hz 1
           clear hz0 hb3 hB2 ho hW)
        | (go_at_call 27
           obtain ⟨w4, hw4, hz4, hu4, hs4⟩ := store_two hz (Value.slice (some ⟨g, 0, none⟩) x.clone.lines.length cg) (Value.bool x.clone.whole)
           rw [hw4]
           have hB4 : Below w.heap.size w w4 := hB3.trans (hu4.below (by have := hB3.size; omega) (fun k hk e => by omega))
           have hy4 : RegAt w4 (.agg #[.slice (some ⟨g, 0, none⟩) x.clone.lines.length cg, .bool x.clone.whole]) x.clone := ⟨_, rfl, StrsAt.of_owns (ownsRow_upd hown hu4 (fun j hj => by simp [Value.ownBlock] at hj; omega))⟩
           have h4 : RegsAt w4 p mb n V M := HR.out.below hB4
           clear hw4 hu4 z0 z1 f0 f1 hz hB3 hown
           refine (lay_any p mb n V M _ c0 c1 _ x.clone w4 h4 hy4 (by omega) hcl Hold.out).mono ?_
           unfold LayPost
           rw [HL.out]
           rintro e w5 ⟨n1, V1, rfl, hR5, hn1, hU5⟩
           have hz5 := hU5.heap hz4 (by omega)
           have hy5 := hy4.upd hU5 h4.nocell
           have hUw : Upd (fun k => k = mb) w w5 := ((false_upd hB4).mono (fun _ _ h => h.elim)).then hU5 (fun _ _ h => h)
           clear hz4 hy4 h4 hU5 hB4 hs4))
      all_goals go_ret
      all_goals first | exact ⟨n1, _, rfl, hR5, by omega, hUw⟩ | exact ⟨n1, _, by rw [‹E = 0›]; rfl, hR5, by omega, hUw⟩
end Go.Proofs.Ytlhcojclfgbobaa
