/- Contracts of lay, whole, and Yank of package regs. -/
import Derived.Test.YtlhcojclfgbobaaRegH
namespace Go.Proofs.Ytlhcojclfgbobaa
open Go.RowKit

theorem layM_none {M : Int → Option RegD} {c : Int} {x : RegD} (h : knownN c = false ∨ c = 95) : (layM M c x).2 = M := by
  unfold layM
  rcases h with h | h
  · rw [if_pos h]
  · rw [if_pos h]
    split <;> rfl

theorem lay_any (p mb n : Nat) (V : Int → Option Value) (M : Int → Option RegD) (c : Int) (c0 : 0 ≤ c) (c1 : c ≤ 255) (v : Value) (x : RegD) (w : World) (h : RegsAt w p mb n V M) (hx : RegAt w v x) (hn : n ≤ 1000000000) (hsx : x.lines.length ≤ 8796093021952) (hold : ∀ r, smallI c ≠ c → M (smallI c) = some r → sizeR r ≤ 1000000000 ∧ sizeR x ≤ 1000000000) :
    Calls Try.prog 27 #[.pointer (some ⟨p, 0, none⟩), .int .u8 c, v] w (LayPost w p mb n M c x) := by
  by_cases hk : knownN c = false ∨ c = 95
  · refine (lay_none p mb n V M c c0 c1 v x w h hx hk).mono ?_
    rintro e w' ⟨rfl, hB⟩
    exact ⟨n, V, rfl, by rw [layM_none hk]; exact h.below hB, by omega, (false_upd hB).mono (fun _ _ h => h.elim)⟩
  · have hk1 : knownN c = true := by cases hh : knownN c with | false => exact absurd (.inl hh) hk | true => rfl
    have h95 : (c == 95) = false := by simp; intro e; exact hk (.inr e)
    by_cases hno : smallI c = c ∨ M (smallI c) = none
    · exact lay_plain p mb n V M c c0 c1 v x w h hx hk1 h95 hn hsx hno
    · cases hM : M (smallI c) with
      | none => exact absurd (.inr hM) hno
      | some r => exact lay_both p mb n V M c c0 c1 v x w h hx hk1 h95 hn (hold r (fun e => hno (.inl e)) hM).2 (fun e => hno (.inl e)) r hM (hold r (fun e => hno (.inl e)) hM).1

/-- Yank. -/
def yankM (M : Int → Option RegD) (c : Int) (x : RegD) : Int × (Int → Option RegD) :=
  ((layM M c x.clone).1, if (layM M c x.clone).1 = 0 ∧ c = 34 then setM (layM M c x.clone).2 48 (some x.clone) else (layM M c x.clone).2)

theorem layM_34 (M : Int → Option RegD) (x : RegD) : layM M 34 x = if (20000 : Int) < wrap64 (sizeR x) then (112, M) else (0, setM (setM M 34 (some x)) 34 (some x)) := by
  have h1 : smallI 34 = 34 := by decide
  have h2 : knownN 34 = true := by decide
  have hl : laidX M 34 x = x := by unfold laidX; rw [if_pos h1]
  unfold layM
  rw [hl, if_neg (by simp [h2]), if_neg (by decide), h1]

def YankPost (w : World) (p mb n : Nat) (R : Int × (Int → Option RegD)) (e : Ending) (w' : World) : Prop :=
  ∃ n' V', e = .returned (.int .u16 R.1) ∧ RegsAt w' p mb n' V' R.2 ∧ n' ≤ n + 20 ∧ Upd (fun k => k = mb) w w'

set_option maxHeartbeats 250000 in
set_option maxRecDepth 100000 in
theorem Yank_any (p mb n : Nat) (V : Int → Option Value) (M : Int → Option RegD) (c : Int) (c0 : 0 ≤ c) (c1 : c ≤ 255) (v : Value) (x : RegD) (w : World) (h : RegsAt w p mb n V M) (hx : RegAt w v x) (hn : n ≤ 900000000) (hsx : x.lines.length ≤ 8796093021952) (hold : ∀ r, smallI c ≠ c → M (smallI c) = some r → sizeR r ≤ 900000000 ∧ sizeR x ≤ 900000000) :
    Calls Try.prog 12 #[.pointer (some ⟨p, 0, none⟩), .int .u8 c, v] w (YankPost w p mb n (yankM M c x)) := by
  have hcl := RegD.clone_len hsx (by omega)
  have hlx := hsx
  have Hold : Hid (∀ r, smallI c ≠ c → M (smallI c) = some r → sizeR r ≤ 1000000000 ∧ sizeR x.clone ≤ 1000000000) := Lib.hid (fun r h1 h2 => ⟨by have := (hold r h1 h2).1; omega, by have := RegD.clone_size (hold r h1 h2).2 (by omega); omega⟩)
  clear hold
  have HX := Lib.hid hx
  obtain ⟨xv, rfl, xa, xc, rfl, _⟩ := hx
  have HR := Lib.hid h
  have hne := x.clone_ne
  unfold YankPost yankM
  have hz34 : c = 34 → (layM M c x.clone).1 = 0 → wrap64 (sizeR x.clone) ≤ 20000 := by
    intro e h0
    subst e
    rw [layM_34] at h0
    split at h0
    · cases h0
    · omega
  obtain ⟨E, M', hL⟩ : ∃ E M', layM M c x.clone = (E, M') := ⟨_, _, rfl⟩
  rw [hL] at hz34 ⊢
  simp only at hz34 ⊢
  have HL := Lib.hid hL
  have Hz := Lib.hid hz34
  have hmw : mb < w.heap.size := h.map.lt
  clear h hL hz34
  go_enter Try.func12, Try.ntmps12
  by_cases hfin : E = 0 ∧ c = 34
  · rw [if_pos hfin]
    obtain ⟨rfl, rfl⟩ := hfin
    go_wp2_with (first
      | (go_at_call 26
         obtain ⟨W, hW, hz0, hB2⟩ : ∃ W, w.alloc (Obj.cells #[.slice xa x.lines.length xc, .bool x.whole] 24) = W ∧ W.heap[w.heap.size]? = some (.cells #[.slice xa x.lines.length xc, .bool x.whole] 24 (0, 0)) ∧ Below w.heap.size w W := ⟨_, rfl, heap_alloc_new _ _, (Below.refl _ _).alloc (Nat.le_refl _) _⟩
         rw [hW]
         refine (clone_any _ x _ (HX.out.below hB2) hlx).mono ?_
         rintro e w3 ⟨u, rfl, ho, hb3⟩
         obtain ⟨g, cg, rfl, hg0, hg1, hown⟩ := ho.form hne
         have hB3 := hB2.trans (hb3.mono hB2.size)
         have hz := (false_upd hb3).heap hz0 (fun h => h)
         have hlt := heap_lt hz0
         have z0 := cell_of hz 0 (v := .slice xa x.lines.length xc) rfl
         have z1 := cell_of hz 1 (v := .bool x.whole) rfl
         have f0 := free_of hz 0
         have f1 := free_of hz 1
         clear hz0 hb3 hB2 ho hW)
      | (go_at_call 27
         obtain ⟨w4, hw4, hz4, hu4, hs4⟩ := store_two hz (Value.slice (some ⟨g, 0, none⟩) x.clone.lines.length cg) (Value.bool x.clone.whole)
         rw [hw4]
         have hB4 : Below w.heap.size w w4 := hB3.trans (hu4.below (by have := hB3.size; omega) (fun k hk e => by omega))
         have hy4 : RegAt w4 (.agg #[.slice (some ⟨g, 0, none⟩) x.clone.lines.length cg, .bool x.clone.whole]) x.clone := ⟨_, rfl, StrsAt.of_owns (ownsRow_upd hown hu4 (fun j hj => by simp [Value.ownBlock] at hj; omega))⟩
         have h4 : RegsAt w4 p mb n V M := HR.out.below hB4
         clear hw4 hu4 z0 z1 f0 f1 hz hB3 hown
         refine (lay_any p mb n V M _ c0 c1 _ x.clone w4 h4 hy4 (by omega) hcl Hold.out).mono ?_
         unfold LayPost
         rw [HL.out]
         rintro e w5 ⟨n1, V1, rfl, hR5, hn1, hU5⟩
         have hz5 := hU5.heap hz4 (by omega)
         have hy5 := hy4.upd hU5 h4.nocell
         have hUw : Upd (fun k => k = mb) w w5 := ((false_upd hB4).mono (fun _ _ h => h.elim)).then hU5 (fun _ _ h => h)
         clear hz4 hy4 h4 hU5 hB4 hs4))
    have hM0 : MapAt w5.drew mb n1 V1 := hR5.map.upd (Upd.refl (fun _ => False) w5).drew (fun h => h)
    have hpm : p ≠ mb := hR5.ne
    have P3 := Lib.hid (cell1_of hR5)
    have Z0 := Lib.hid (cell_of hz5 0 (v := .slice (some ⟨g, 0, none⟩) x.clone.lines.length cg) rfl)
    have Z1 := Lib.hid (cell_of hz5 1 (v := .bool x.clone.whole) rfl)
    have HR5 := Lib.hid hR5
    have HX5 := Lib.hid hy5
    clear hR5 hz5 hy5
    refine wp_region_seq (fun v => Upd (fun j => j = mb) w5 v) (fun i => i != 99) [(0, true), (1, true), (2, true), (3, true), (4, true), (5, false)] (by exact rfl) (by kernel_rfl) (by intro c a d v w h; cases d <;> exact h) ?_
    have hS : Upd (fun j => j = mb) w5 w5.drew := (Upd.refl _ _).drew
    (apply seq_val (o := { dst := some 20, op := Op.move (Operand.tmp 0), type := 30, pos := "regs.go:81", after := #[], guard := none }) rfl (by rfl); (focus (intro w' hS'; have s0 := hS'.cell P3.out hpm; have s1 := hS'.cell Z0.out (by show ¬ w.heap.size = mb; omega); have s2 := hS'.cell Z1.out (by show ¬ w.heap.size = mb; omega); go_simp; (first | done | exact rfl | (rw [if_pos (by omega)]; done)))); (focus exact hS))
    (try simp only [Act.put, List.setIfInBounds_toArray, List.set_cons_zero, List.set_cons_succ])
    (apply seq_val (o := { dst := some 21, op := Op.nilCheck (Operand.tmp 20), type := 0, pos := "regs.go:81", after := #[{ on := 0, ground := Ground.data }], guard := none }) rfl (by rfl); (focus (intro w' hS'; have s0 := hS'.cell P3.out hpm; have s1 := hS'.cell Z0.out (by show ¬ w.heap.size = mb; omega); have s2 := hS'.cell Z1.out (by show ¬ w.heap.size = mb; omega); go_simp; (first | done | exact rfl | (rw [if_pos (by omega)]; done)))); (focus exact hS))
    (try simp only [Act.put, List.setIfInBounds_toArray, List.set_cons_zero, List.set_cons_succ])
    (apply seq_val (o := { dst := some 22, op := Op.fieldAddr 56 (Operand.tmp 21) 0, type := 0, pos := "regs.go:81", after := #[{ on := 1, ground := Ground.data }], guard := none }) rfl (by rfl); (focus (intro w' hS'; have s0 := hS'.cell P3.out hpm; have s1 := hS'.cell Z0.out (by show ¬ w.heap.size = mb; omega); have s2 := hS'.cell Z1.out (by show ¬ w.heap.size = mb; omega); go_simp; (first | done | exact rfl | (rw [if_pos (by omega)]; done)))); (focus exact hS))
    (try simp only [Act.put, List.setIfInBounds_toArray, List.set_cons_zero, List.set_cons_succ])
    (apply seq_val (o := { dst := some 23, op := Op.load 54 (Operand.tmp 22), type := 54, pos := "regs.go:81", after := #[{ on := 2, ground := Ground.data }], guard := none }) rfl (by rfl); (focus (intro w' hS'; have s0 := hS'.cell P3.out hpm; have s1 := hS'.cell Z0.out (by show ¬ w.heap.size = mb; omega); have s2 := hS'.cell Z1.out (by show ¬ w.heap.size = mb; omega); go_simp; (first | done | exact rfl | (rw [if_pos (by omega)]; done)))); (focus exact hS))
    (try simp only [Act.put, List.setIfInBounds_toArray, List.set_cons_zero, List.set_cons_succ])
    (apply seq_val (o := { dst := some 24, op := Op.load 24 (Operand.tmp 5), type := 24, pos := "regs.go:81", after := #[], guard := none }) rfl (by rfl); (focus (intro w' hS'; have s0 := hS'.cell P3.out hpm; have s1 := hS'.cell Z0.out (by show ¬ w.heap.size = mb; omega); have s2 := hS'.cell Z1.out (by show ¬ w.heap.size = mb; omega); go_simp; (first | done | exact rfl | (rw [if_pos (by omega)]; done)))); (focus exact hS))
    (try simp only [Act.put, List.setIfInBounds_toArray, List.set_cons_zero, List.set_cons_succ])
    refine seq_loud (o := { dst := none, op := Op.mapUpdate 54 (Operand.tmp 23) (Operand.const (Value.int IntKind.u8 48)) (Operand.tmp 24), type := 0, pos := "regs.go:81", after := #[{ on := 3, ground := Ground.data }, { on := 4, ground := Ground.data }, { on := 0, ground := Ground.phase }, { on := 1, ground := Ground.phase }, { on := 2, ground := Ground.phase }, { on := 3, ground := Ground.phase }, { on := 4, ground := Ground.phase }], guard := none }) rfl (fun K hK => ?_)
    obtain ⟨w6, hrun, hM6, hg6⟩ := hM0.store (by unfold maxLen; omega) (k := 48) (by decide) (by decide) (.agg #[.slice (some ⟨g, 0, none⟩) x.clone.lines.length cg, .bool x.clone.whole]); go_simp; clear hS; have hS : Upd (fun j => j = mb) w5 w6 := ((Upd.refl (fun j => j = mb) w5).drew).grown hg6 (fun j _ e => by cases e; rfl); refine hK _ _ (fun _ => hS) ?_; clear hK K hrun
    (try simp only [Act.put, List.setIfInBounds_toArray, List.set_cons_zero, List.set_cons_succ])
    refine seq_nil ?_
    have hR6 := HR5.out.set hM6 hS HX5.out ⟨by simpa using Hz.out, hcl⟩
    go_wp2
    go_ret
    exact ⟨n1 + 1, _, rfl, hR6, by omega, hUw.then hS (fun _ _ h => h)⟩
  · rw [if_neg hfin]
    by_cases h34 : c = 34
    · have hE : (E == 0) = false := by simp; intro e; exact hfin ⟨e, h34⟩
      subst h34
      clear hfin
      go_wp2_with (first
        | (go_at_call 26
           obtain ⟨W, hW, hz0, hB2⟩ : ∃ W, w.alloc (Obj.cells #[.slice xa x.lines.length xc, .bool x.whole] 24) = W ∧ W.heap[w.heap.size]? = some (.cells #[.slice xa x.lines.length xc, .bool x.whole] 24 (0, 0)) ∧ Below w.heap.size w W := ⟨_, rfl, heap_alloc_new _ _, (Below.refl _ _).alloc (Nat.le_refl _) _⟩
           rw [hW]
           refine (clone_any _ x _ (HX.out.below hB2) hlx).mono ?_
           rintro e w3 ⟨u, rfl, ho, hb3⟩
           obtain ⟨g, cg, rfl, hg0, hg1, hown⟩ := ho.form hne
           have hB3 := hB2.trans (hb3.mono hB2.size)
           have hz := (false_upd hb3).heap hz0 (fun h => h)
           have hlt := heap_lt hz0
           have z0 := cell_of hz 0 (v := .slice xa x.lines.length xc) rfl
           have z1 := cell_of hz 1 (v := .bool x.whole) rfl
           have f0 := free_of hz 0
           have f1 := free_of hz 1
           clear hz0 hb3 hB2 ho hW)
        | (go_at_call 27
           obtain ⟨w4, hw4, hz4, hu4, hs4⟩ := store_two hz (Value.slice (some ⟨g, 0, none⟩) x.clone.lines.length cg) (Value.bool x.clone.whole)
           rw [hw4]
           have hB4 : Below w.heap.size w w4 := hB3.trans (hu4.below (by have := hB3.size; omega) (fun k hk e => by omega))
           have hy4 : RegAt w4 (.agg #[.slice (some ⟨g, 0, none⟩) x.clone.lines.length cg, .bool x.clone.whole]) x.clone := ⟨_, rfl, StrsAt.of_owns (ownsRow_upd hown hu4 (fun j hj => by simp [Value.ownBlock] at hj; omega))⟩
           have h4 : RegsAt w4 p mb n V M := HR.out.below hB4
           clear hw4 hu4 z0 z1 f0 f1 hz hB3 hown
           refine (lay_any p mb n V M _ c0 c1 _ x.clone w4 h4 hy4 (by omega) hcl Hold.out).mono ?_
           unfold LayPost
           rw [HL.out]
           rintro e w5 ⟨n1, V1, rfl, hR5, hn1, hU5⟩
           have hz5 := hU5.heap hz4 (by omega)
           have hy5 := hy4.upd hU5 h4.nocell
           have hUw : Upd (fun k => k = mb) w w5 := ((false_upd hB4).mono (fun _ _ h => h.elim)).then hU5 (fun _ _ h => h)
           clear hz4 hy4 h4 hU5 hB4 hs4))
      all_goals go_ret
      all_goals first | exact ⟨n1, _, rfl, hR5, by omega, hUw⟩ | exact ⟨n1, _, by rw [‹E = 0›]; rfl, hR5, by omega, hUw⟩
    · have h34' : (c == 34) = false := by simpa using h34
      clear hfin h34
      go_wp2_with (first
        | (go_at_call 26
           obtain ⟨W, hW, hz0, hB2⟩ : ∃ W, w.alloc (Obj.cells #[.slice xa x.lines.length xc, .bool x.whole] 24) = W ∧ W.heap[w.heap.size]? = some (.cells #[.slice xa x.lines.length xc, .bool x.whole] 24 (0, 0)) ∧ Below w.heap.size w W := ⟨_, rfl, heap_alloc_new _ _, (Below.refl _ _).alloc (Nat.le_refl _) _⟩
           rw [hW]
           refine (clone_any _ x _ (HX.out.below hB2) hlx).mono ?_
           rintro e w3 ⟨u, rfl, ho, hb3⟩
           obtain ⟨g, cg, rfl, hg0, hg1, hown⟩ := ho.form hne
           have hB3 := hB2.trans (hb3.mono hB2.size)
           have hz := (false_upd hb3).heap hz0 (fun h => h)
           have hlt := heap_lt hz0
           have z0 := cell_of hz 0 (v := .slice xa x.lines.length xc) rfl
           have z1 := cell_of hz 1 (v := .bool x.whole) rfl
           have f0 := free_of hz 0
           have f1 := free_of hz 1
           clear hz0 hb3 hB2 ho hW)
        | (go_at_call 27
           obtain ⟨w4, hw4, hz4, hu4, hs4⟩ := store_two hz (Value.slice (some ⟨g, 0, none⟩) x.clone.lines.length cg) (Value.bool x.clone.whole)
           rw [hw4]
           have hB4 : Below w.heap.size w w4 := hB3.trans (hu4.below (by have := hB3.size; omega) (fun k hk e => by omega))
           have hy4 : RegAt w4 (.agg #[.slice (some ⟨g, 0, none⟩) x.clone.lines.length cg, .bool x.clone.whole]) x.clone := ⟨_, rfl, StrsAt.of_owns (ownsRow_upd hown hu4 (fun j hj => by simp [Value.ownBlock] at hj; omega))⟩
           have h4 : RegsAt w4 p mb n V M := HR.out.below hB4
           clear hw4 hu4 z0 z1 f0 f1 hz hB3 hown
           refine (lay_any p mb n V M _ c0 c1 _ x.clone w4 h4 hy4 (by omega) hcl Hold.out).mono ?_
           unfold LayPost
           rw [HL.out]
           rintro e w5 ⟨n1, V1, rfl, hR5, hn1, hU5⟩
           have hz5 := hU5.heap hz4 (by omega)
           have hy5 := hy4.upd hU5 h4.nocell
           have hUw : Upd (fun k => k = mb) w w5 := ((false_upd hB4).mono (fun _ _ h => h.elim)).then hU5 (fun _ _ h => h)
           clear hz4 hy4 h4 hU5 hB4 hs4))
      all_goals go_ret
      all_goals first | exact ⟨n1, _, rfl, hR5, by omega, hUw⟩ | exact ⟨n1, _, by rw [‹E = 0›]; rfl, hR5, by omega, hUw⟩
end Go.Proofs.Ytlhcojclfgbobaa
