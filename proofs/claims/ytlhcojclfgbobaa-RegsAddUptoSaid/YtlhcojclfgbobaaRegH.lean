/- Contract of lay of package regs, behind something that is there. -/
import Derived.Test.YtlhcojclfgbobaaRegG
namespace Go.Proofs.Ytlhcojclfgbobaa
open Go.RowKit

theorem bothD_size (a b : RegD) (ha : a.lines ≠ []) (hb : b.lines ≠ []) : sizeR (bothD a b) ≤ sizeR a + sizeR b ∧ (bothD a b).lines ≠ [] := by
  obtain ⟨xs, wa⟩ := a
  obtain ⟨ys, wb⟩ := b
  simp only at ha hb
  obtain ⟨xs0, p, rfl⟩ : ∃ xs0 p, xs = xs0 ++ [p] := ⟨xs.dropLast, xs.getLast ha, (List.dropLast_concat_getLast ha).symm⟩
  obtain ⟨q, ys0, rfl⟩ : ∃ q ys0, ys = q :: ys0 := by cases ys with | nil => exact absurd rfl hb | cons q ys0 => exact ⟨q, ys0, rfl⟩
  unfold bothD
  split
  · simp [sizeR, sumL]; omega
  · simp [sizeR, sumL]; omega
theorem bothR_size (a b : RegD) (n : Nat) (ha : sizeR a ≤ n) (hb : sizeR b ≤ n) (hn : 1 ≤ n) : sizeR (bothR a b) ≤ 2 * n ∧ (bothR a b).lines ≠ [] := by
  have h := bothD_size a.clone b.clone a.clone_ne b.clone_ne
  have h1 := RegD.clone_size ha hn
  have h2 := RegD.clone_size hb hn
  exact ⟨by unfold bothR; omega, h.2⟩

set_option maxHeartbeats 2000000 in
set_option maxRecDepth 100000 in
theorem lay_both (p mb n : Nat) (V : Int → Option Value) (M : Int → Option RegD) (c : Int) (c0 : 0 ≤ c) (c1 : c ≤ 255) (v : Value) (x : RegD) (w : World) (h : RegsAt w p mb n V M) (hx : RegAt w v x) (hk : knownN c = true) (h95 : (c == 95) = false) (hn : n ≤ 1000000000) (hsx : sizeR x ≤ 1000000000)
    (hs : ¬ smallI c = c) (r : RegD) (hM : M (smallI c) = some r) (hrs : sizeR r ≤ 1000000000) :
    Calls Try.prog 27 #[.pointer (some ⟨p, 0, none⟩), .int .u8 c, v] w (LayPost w p mb n M c x) := by
  have hlx : laidX M c x = bothR r x := by
    unfold laidX
    rw [if_neg hs, hM]
  have hl : layM M c x = if (20000 : Int) < wrap64 (sizeR (bothR r x)) then (112, M) else (0, setM (setM M (smallI c) (some (bothR r x))) 34 (some (bothR r x))) := by
    unfold layM
    rw [hlx, if_neg (by simp [hk]), if_neg (by simpa using h95)]
  obtain ⟨hbs, hbn⟩ := bothR_size r x 1000000000 (by omega) hsx (by omega)
  have hxx := hx
  obtain ⟨xv, rfl, xa, xc, rfl, _⟩ := hx
  have hsr := smallI_rng c0 c1
  obtain ⟨la, ln, lc, wh, is, hlook, his⟩ := h.look hsr.1 hsr.2
  obtain ⟨rfl, hr⟩ : is = true ∧ RegAt w (.agg #[.slice la ln lc, .bool wh]) r := by
    rcases his with h | ⟨e, r', h, h2⟩
    · rw [h.2] at hM; cases hM
    · rw [hM] at h; cases h; exact ⟨e, h2⟩
  have hB := (Below.refl w.heap.size w).alloc (Nat.le_refl _) (Obj.cells #[.slice xa x.lines.length xc, .bool x.whole] 24)
  have P1 := (false_upd hB).cell (cell1_of h) (fun h => h)
  have L1 := hlook _ (false_upd hB)
  have HX := Lib.hid hxx
  have HO := Lib.hid hr
  have HR := Lib.hid h
  clear hlook h hlx his hxx hr hM
  unfold LayPost
  rw [hl]
  clear hl
  have HE : Hid (bothR r x = bothR r x) := Lib.hid rfl
  obtain ⟨k, hkk⟩ : ∃ k, smallI c = k := ⟨_, rfl⟩
  rw [hkk] at hs L1 hsr ⊢
  have HK := Lib.hid hkk
  clear hkk
  have hs2 : (k == c) = false := by simpa using hs
  obtain ⟨y, hy⟩ : ∃ y, bothR r x = y := ⟨_, rfl⟩
  rw [hy] at hbs hbn ⊢
  have HY := Lib.hid hy
  clear hy HE
  have hlen : y.lines.length ≤ 8796093021952 := by unfold sizeR at hbs; omega
  go_enter Try.func27, Try.ntmps27
  by_cases hbig : (20000 : Int) < wrap64 (sizeR y)
  · rw [if_pos hbig]
    go_wp2_with (first
        | (go_at_call 28; refine (Small_any _ c0 c1 _).mono ?_; rw [HK.out]; rintro e w' ⟨rfl, rfl⟩)
        | (go_at_call 16; refine (RKnown_any _ c0 c1 _).mono ?_; rw [hk]; rintro e w' ⟨rfl, rfl⟩)
        | (go_at_call 40
           have hB2 := below_two w (Obj.cells #[.slice xa x.lines.length xc, .bool x.whole] 24) (Obj.cells #[.slice la ln lc, .bool wh] 24)
           have hz0 := heap_old (heap_alloc_new w (Obj.cells #[.slice xa x.lines.length xc, .bool x.whole] 24)) (Obj.cells #[.slice la ln lc, .bool wh] 24)
           have hsz2 : w.heap.size + 2 ≤ ((w.alloc (Obj.cells #[.slice xa x.lines.length xc, .bool x.whole] 24)).alloc (Obj.cells #[.slice la ln lc, .bool wh] 24)).heap.size := by simp
           generalize (w.alloc (Obj.cells #[.slice xa x.lines.length xc, .bool x.whole] 24)).alloc (Obj.cells #[.slice la ln lc, .bool wh] 24) = W at *
           refine (both_any _ _ r x _ (HO.out.below hB2) (HX.out.below hB2) (by omega) hsx).mono ?_
           rw [HY.out]
           rintro e w3 ⟨u, rfl, ho, hb3⟩
           obtain ⟨g, cg, rfl, hg0, hg1, hown⟩ := ho.form hbn
           have hB3 := hB2.trans (hb3.mono hB2.size)
           have hz := (false_upd hb3).heap hz0 (fun h => h)
           have z0 := cell_of hz 0 (v := .slice xa x.lines.length xc) rfl
           have z1 := cell_of hz 1 (v := .bool x.whole) rfl
           have f0 := free_of hz 0
           have f1 := free_of hz 1
           clear hz0 hb3 hB2 ho)
        | (go_at_call 41
           obtain ⟨w4, hw4, hz4, hu4, hs4⟩ := store_two hz (Value.slice (some ⟨g, 0, none⟩) y.lines.length cg) (Value.bool y.whole)
           rw [hw4]
           have hB4 : Below w.heap.size w w4 := hB3.trans (hu4.below (by have := hB3.size; omega) (fun k hk e => by omega))
           have hy4 : RegAt w4 (.agg #[.slice (some ⟨g, 0, none⟩) y.lines.length cg, .bool y.whole]) y := ⟨_, rfl, StrsAt.of_owns (ownsRow_upd hown hu4 (fun j hj => by simp [Value.ownBlock] at hj; omega))⟩
           clear hw4 hu4 z0 z1 f0 f1 hz hB3 hown
           refine (size_any _ y _ hy4 hlen).mono ?_
           rintro e w5 ⟨rfl, hb5⟩
           have hB5 := hB4.trans (hb5.mono hB4.size)
           have hz5 := (false_upd hb5).heap hz4 (fun h => h)
           have hy5 := hy4.below hb5
           clear hb5 hB4 hz4 hy4 hs4))
    all_goals go_ret
    all_goals exact ⟨rfl, n, ⟨V, HR.out.below hB5⟩, by omega, (false_upd hB5).mono (fun _ _ h => h.elim)⟩
  · have hb2 : wrap64 (sizeR y) ≤ 20000 := by omega
    rw [if_neg hbig]
    go_wp2_with (first
        | (go_at_call 28; refine (Small_any _ c0 c1 _).mono ?_; rw [HK.out]; rintro e w' ⟨rfl, rfl⟩)
        | (go_at_call 16; refine (RKnown_any _ c0 c1 _).mono ?_; rw [hk]; rintro e w' ⟨rfl, rfl⟩)
        | (go_at_call 40
           have hB2 := below_two w (Obj.cells #[.slice xa x.lines.length xc, .bool x.whole] 24) (Obj.cells #[.slice la ln lc, .bool wh] 24)
           have hz0 := heap_old (heap_alloc_new w (Obj.cells #[.slice xa x.lines.length xc, .bool x.whole] 24)) (Obj.cells #[.slice la ln lc, .bool wh] 24)
           have hsz2 : w.heap.size + 2 ≤ ((w.alloc (Obj.cells #[.slice xa x.lines.length xc, .bool x.whole] 24)).alloc (Obj.cells #[.slice la ln lc, .bool wh] 24)).heap.size := by simp
           generalize (w.alloc (Obj.cells #[.slice xa x.lines.length xc, .bool x.whole] 24)).alloc (Obj.cells #[.slice la ln lc, .bool wh] 24) = W at *
           refine (both_any _ _ r x _ (HO.out.below hB2) (HX.out.below hB2) (by omega) hsx).mono ?_
           rw [HY.out]
           rintro e w3 ⟨u, rfl, ho, hb3⟩
           obtain ⟨g, cg, rfl, hg0, hg1, hown⟩ := ho.form hbn
           have hB3 := hB2.trans (hb3.mono hB2.size)
           have hz := (false_upd hb3).heap hz0 (fun h => h)
           have z0 := cell_of hz 0 (v := .slice xa x.lines.length xc) rfl
           have z1 := cell_of hz 1 (v := .bool x.whole) rfl
           have f0 := free_of hz 0
           have f1 := free_of hz 1
           clear hz0 hb3 hB2 ho)
        | (go_at_call 41
           obtain ⟨w4, hw4, hz4, hu4, hs4⟩ := store_two hz (Value.slice (some ⟨g, 0, none⟩) y.lines.length cg) (Value.bool y.whole)
           rw [hw4]
           have hB4 : Below w.heap.size w w4 := hB3.trans (hu4.below (by have := hB3.size; omega) (fun k hk e => by omega))
           have hy4 : RegAt w4 (.agg #[.slice (some ⟨g, 0, none⟩) y.lines.length cg, .bool y.whole]) y := ⟨_, rfl, StrsAt.of_owns (ownsRow_upd hown hu4 (fun j hj => by simp [Value.ownBlock] at hj; omega))⟩
           clear hw4 hu4 z0 z1 f0 f1 hz hB3 hown
           refine (size_any _ y _ hy4 hlen).mono ?_
           rintro e w5 ⟨rfl, hb5⟩
           have hB5 := hB4.trans (hb5.mono hB4.size)
           have hz5 := (false_upd hb5).heap hz4 (fun h => h)
           have hy5 := hy4.below hb5
           clear hb5 hB4 hz4 hy4 hs4))
    have hR3 := HR.out.below hB5
    have hpm : p ≠ mb := hR3.ne
    have hmw : mb < w.heap.size := HR.out.map.lt
    have P3 := Lib.hid (cell1_of hR3)
    have Z0 := Lib.hid (cell_of hz5 0 (v := .slice (some ⟨g, 0, none⟩) y.lines.length cg) rfl)
    have Z1 := Lib.hid (cell_of hz5 1 (v := .bool y.whole) rfl)
    have hM0 : MapAt w5.drew mb n V := hR3.map.upd (Upd.refl (fun _ => False) w5).drew (fun h => h)
    have HR3 := Lib.hid hR3
    have HX3 := Lib.hid hy5
    clear hR3 hz5 P1 L1 hB hy5
    refine wp_region_seq (fun v => Upd (fun j => j = mb) w5 v) (fun i => i != 99) [(0, true), (1, true), (2, true), (3, true), (4, true), (5, true), (6, true), (7, true), (8, true), (9, true), (10, true), (11, false), (12, true), (13, false), (14, false), (15, true), (16, false)] (by exact rfl) (by kernel_rfl) (by intro c a d v w h; cases d <;> exact h) ?_
    have hS : Upd (fun j => j = mb) w5 w5.drew := (Upd.refl _ _).drew
    (apply seq_val (o := { dst := some 41, op := Op.move (Operand.tmp 0), type := 30, pos := "regs.go:72", after := #[], guard := none }) rfl (by rfl); (focus (intro w' hS'; have s0 := hS'.cell P3.out hpm; have s1 := hS'.cell Z0.out (by show ¬ w.heap.size = mb; omega); have s2 := hS'.cell Z1.out (by show ¬ w.heap.size = mb; omega); go_simp; (first | done | exact rfl | (rw [if_pos (by omega)]; done)))); (focus exact hS))
    (try simp only [Act.put, List.setIfInBounds_toArray, List.set_cons_zero, List.set_cons_succ])
    (apply seq_val (o := { dst := some 42, op := Op.nilCheck (Operand.tmp 41), type := 0, pos := "regs.go:72", after := #[{ on := 0, ground := Ground.data }], guard := none }) rfl (by rfl); (focus (intro w' hS'; have s0 := hS'.cell P3.out hpm; have s1 := hS'.cell Z0.out (by show ¬ w.heap.size = mb; omega); have s2 := hS'.cell Z1.out (by show ¬ w.heap.size = mb; omega); go_simp; (first | done | exact rfl | (rw [if_pos (by omega)]; done)))); (focus exact hS))
    (try simp only [Act.put, List.setIfInBounds_toArray, List.set_cons_zero, List.set_cons_succ])
    (apply seq_val (o := { dst := some 43, op := Op.fieldAddr 56 (Operand.tmp 42) 0, type := 0, pos := "regs.go:72", after := #[{ on := 1, ground := Ground.data }], guard := none }) rfl (by rfl); (focus (intro w' hS'; have s0 := hS'.cell P3.out hpm; have s1 := hS'.cell Z0.out (by show ¬ w.heap.size = mb; omega); have s2 := hS'.cell Z1.out (by show ¬ w.heap.size = mb; omega); go_simp; (first | done | exact rfl | (rw [if_pos (by omega)]; done)))); (focus exact hS))
    (try simp only [Act.put, List.setIfInBounds_toArray, List.set_cons_zero, List.set_cons_succ])
    (apply seq_val (o := { dst := some 44, op := Op.load 54 (Operand.tmp 43), type := 54, pos := "regs.go:72", after := #[{ on := 2, ground := Ground.data }], guard := none }) rfl (by rfl); (focus (intro w' hS'; have s0 := hS'.cell P3.out hpm; have s1 := hS'.cell Z0.out (by show ¬ w.heap.size = mb; omega); have s2 := hS'.cell Z1.out (by show ¬ w.heap.size = mb; omega); go_simp; (first | done | exact rfl | (rw [if_pos (by omega)]; done)))); (focus exact hS))
    (try simp only [Act.put, List.setIfInBounds_toArray, List.set_cons_zero, List.set_cons_succ])
    (apply seq_val (o := { dst := some 45, op := Op.move (Operand.tmp 7), type := 5, pos := "regs.go:72", after := #[], guard := none }) rfl (by rfl); (focus (intro w' hS'; have s0 := hS'.cell P3.out hpm; have s1 := hS'.cell Z0.out (by show ¬ w.heap.size = mb; omega); have s2 := hS'.cell Z1.out (by show ¬ w.heap.size = mb; omega); go_simp; (first | done | exact rfl | (rw [if_pos (by omega)]; done)))); (focus exact hS))
    (try simp only [Act.put, List.setIfInBounds_toArray, List.set_cons_zero, List.set_cons_succ])
    (apply seq_val (o := { dst := some 46, op := Op.move (Operand.tmp 0), type := 30, pos := "regs.go:72", after := #[], guard := none }) rfl (by rfl); (focus (intro w' hS'; have s0 := hS'.cell P3.out hpm; have s1 := hS'.cell Z0.out (by show ¬ w.heap.size = mb; omega); have s2 := hS'.cell Z1.out (by show ¬ w.heap.size = mb; omega); go_simp; (first | done | exact rfl | (rw [if_pos (by omega)]; done)))); (focus exact hS))
    (try simp only [Act.put, List.setIfInBounds_toArray, List.set_cons_zero, List.set_cons_succ])
    (apply seq_val (o := { dst := some 47, op := Op.nilCheck (Operand.tmp 46), type := 0, pos := "regs.go:72", after := #[{ on := 5, ground := Ground.data }], guard := none }) rfl (by rfl); (focus (intro w' hS'; have s0 := hS'.cell P3.out hpm; have s1 := hS'.cell Z0.out (by show ¬ w.heap.size = mb; omega); have s2 := hS'.cell Z1.out (by show ¬ w.heap.size = mb; omega); go_simp; (first | done | exact rfl | (rw [if_pos (by omega)]; done)))); (focus exact hS))
    (try simp only [Act.put, List.setIfInBounds_toArray, List.set_cons_zero, List.set_cons_succ])
    (apply seq_val (o := { dst := some 48, op := Op.fieldAddr 56 (Operand.tmp 47) 0, type := 0, pos := "regs.go:72", after := #[{ on := 6, ground := Ground.data }], guard := none }) rfl (by rfl); (focus (intro w' hS'; have s0 := hS'.cell P3.out hpm; have s1 := hS'.cell Z0.out (by show ¬ w.heap.size = mb; omega); have s2 := hS'.cell Z1.out (by show ¬ w.heap.size = mb; omega); go_simp; (first | done | exact rfl | (rw [if_pos (by omega)]; done)))); (focus exact hS))
    (try simp only [Act.put, List.setIfInBounds_toArray, List.set_cons_zero, List.set_cons_succ])
    (apply seq_val (o := { dst := some 49, op := Op.load 54 (Operand.tmp 48), type := 54, pos := "regs.go:72", after := #[{ on := 7, ground := Ground.data }], guard := none }) rfl (by rfl); (focus (intro w' hS'; have s0 := hS'.cell P3.out hpm; have s1 := hS'.cell Z0.out (by show ¬ w.heap.size = mb; omega); have s2 := hS'.cell Z1.out (by show ¬ w.heap.size = mb; omega); go_simp; (first | done | exact rfl | (rw [if_pos (by omega)]; done)))); (focus exact hS))
    (try simp only [Act.put, List.setIfInBounds_toArray, List.set_cons_zero, List.set_cons_succ])
    (apply seq_val (o := { dst := some 50, op := Op.load 24 (Operand.tmp 5), type := 24, pos := "regs.go:72", after := #[{ on := 11, ground := Ground.gcOnly Departure.tupleMapEntryFirst }], guard := none }) rfl (by rfl); (focus (intro w' hS'; have s0 := hS'.cell P3.out hpm; have s1 := hS'.cell Z0.out (by show ¬ w.heap.size = mb; omega); have s2 := hS'.cell Z1.out (by show ¬ w.heap.size = mb; omega); go_simp; (first | done | exact rfl | (rw [if_pos (by omega)]; done)))); (focus exact hS))
    (try simp only [Act.put, List.setIfInBounds_toArray, List.set_cons_zero, List.set_cons_succ])
    (apply seq_val (o := { dst := some 51, op := Op.load 24 (Operand.tmp 5), type := 24, pos := "regs.go:72", after := #[{ on := 13, ground := Ground.gcOnly Departure.lateStores }, { on := 14, ground := Ground.gcOnly Departure.tupleMapEntryFirst }], guard := none }) rfl (by rfl); (focus (intro w' hS'; have s0 := hS'.cell P3.out hpm; have s1 := hS'.cell Z0.out (by show ¬ w.heap.size = mb; omega); have s2 := hS'.cell Z1.out (by show ¬ w.heap.size = mb; omega); go_simp; (first | done | exact rfl | (rw [if_pos (by omega)]; done)))); (focus exact hS))
    (try simp only [Act.put, List.setIfInBounds_toArray, List.set_cons_zero, List.set_cons_succ])
    refine seq_loud (o := { dst := some 52, op := Op.mapEntry 54 (Operand.tmp 44) (Operand.tmp 45), type := 0, pos := "regs.go:72", after := #[{ on := 3, ground := Ground.data }, { on := 4, ground := Ground.data }, { on := 0, ground := Ground.textOnly Departure.tupleMapEntryFirst }, { on := 1, ground := Ground.textOnly Departure.tupleMapEntryFirst }, { on := 2, ground := Ground.textOnly Departure.tupleMapEntryFirst }, { on := 3, ground := Ground.textOnly Departure.tupleMapEntryFirst }, { on := 4, ground := Ground.textOnly Departure.lateStoresUnsure }, { on := 5, ground := Ground.textOnly Departure.lateStores }, { on := 6, ground := Ground.textOnly Departure.lateStoresUnsure }, { on := 7, ground := Ground.textOnly Departure.lateStoresUnsure }, { on := 8, ground := Ground.phase }, { on := 9, ground := Ground.textOnly Departure.tupleMapEntryFirst }, { on := 10, ground := Ground.textOnly Departure.lateStores }], guard := none }) rfl (fun K hK => ?_)
    obtain ⟨v0, st, w4, hrun, hg, hst⟩ := hM0.entry (by unfold maxLen; omega) hsr.1 hsr.2; go_simp; clear hS; have hS : Upd (fun j => j = mb) w5 w4 := ((Upd.refl (fun j => j = mb) w5).drew).grown hg (fun j _ e => by cases e; rfl); refine hK _ _ (fun _ => hS) ?_; clear hK K hrun
    (try simp only [Act.put, List.setIfInBounds_toArray, List.set_cons_zero, List.set_cons_succ])
    (apply seq_val (o := { dst := some 53, op := Op.extract (Operand.tmp 52) 1, type := 3, pos := "regs.go:72", after := #[{ on := 11, ground := Ground.data }], guard := none }) rfl (by rfl); (focus (intro w' hS'; have s0 := hS'.cell P3.out hpm; have s1 := hS'.cell Z0.out (by show ¬ w.heap.size = mb; omega); have s2 := hS'.cell Z1.out (by show ¬ w.heap.size = mb; omega); go_simp; (first | done | exact rfl | (rw [if_pos (by omega)]; done)))); (focus exact hS))
    (try simp only [Act.put, List.setIfInBounds_toArray, List.set_cons_zero, List.set_cons_succ])
    refine seq_loud (o := { dst := none, op := Op.entryStore 54 (Operand.tmp 44) (Operand.tmp 53) (Operand.tmp 50), type := 0, pos := "regs.go:72", after := #[{ on := 3, ground := Ground.data }, { on := 12, ground := Ground.data }, { on := 9, ground := Ground.data }, { on := 11, ground := Ground.chain }, { on := 0, ground := Ground.phase }, { on := 1, ground := Ground.phase }, { on := 2, ground := Ground.phase }, { on := 3, ground := Ground.phase }, { on := 4, ground := Ground.phase }, { on := 5, ground := Ground.textOnly Departure.lateStores }, { on := 6, ground := Ground.textOnly Departure.lateStoresUnsure }, { on := 7, ground := Ground.textOnly Departure.lateStoresUnsure }, { on := 8, ground := Ground.phase }, { on := 9, ground := Ground.phase }, { on := 10, ground := Ground.textOnly Departure.lateStores }, { on := 11, ground := Ground.phase }], guard := none }) rfl (fun K hK => ?_)
    obtain ⟨wq, hrun, hM5, hg5⟩ := hst (.agg #[.slice (some ⟨g, 0, none⟩) y.lines.length cg, .bool y.whole]); simp only [goInt] at hrun; go_simp; clear hS; have hS : Upd (fun j => j = mb) w5 wq := ((Upd.refl (fun j => j = mb) w5).drew).grown hg5 (fun j _ e => by cases e; rfl); have HS5 := Lib.hid hS; refine hK _ _ (fun _ => hS) ?_; clear hK K hrun
    (try simp only [Act.put, List.setIfInBounds_toArray, List.set_cons_zero, List.set_cons_succ])
    refine seq_loud (o := { dst := some 54, op := Op.mapEntry 54 (Operand.tmp 49) (Operand.const (Value.int IntKind.u8 34)), type := 0, pos := "regs.go:72", after := #[{ on := 8, ground := Ground.data }, { on := 13, ground := Ground.chain }, { on := 0, ground := Ground.phase }, { on := 1, ground := Ground.phase }, { on := 2, ground := Ground.phase }, { on := 3, ground := Ground.phase }, { on := 4, ground := Ground.phase }, { on := 5, ground := Ground.textOnly Departure.tupleMapEntryFirst }, { on := 6, ground := Ground.textOnly Departure.lateStoresUnsure }, { on := 7, ground := Ground.textOnly Departure.lateStoresUnsure }, { on := 8, ground := Ground.phase }, { on := 9, ground := Ground.phase }, { on := 10, ground := Ground.textOnly Departure.tupleMapEntryFirst }, { on := 11, ground := Ground.phase }, { on := 12, ground := Ground.phase }, { on := 13, ground := Ground.phase }], guard := none }) rfl (fun K hK => ?_)
    obtain ⟨v1, st1, w6, hrun, hg6, hst1⟩ := hM5.entry (by unfold maxLen; omega) (k := 34) (by decide) (by decide); go_simp; clear hS; have hS : Upd (fun j => j = mb) w5 w6 := HS5.out.grown hg6 (fun j _ e => by cases e; rfl); refine hK _ _ (fun _ => hS) ?_; clear hK K hrun
    (try simp only [Act.put, List.setIfInBounds_toArray, List.set_cons_zero, List.set_cons_succ])
    (apply seq_val (o := { dst := some 55, op := Op.extract (Operand.tmp 54) 1, type := 3, pos := "regs.go:72", after := #[{ on := 14, ground := Ground.data }], guard := none }) rfl (by rfl); (focus (intro w' hS'; have s0 := hS'.cell P3.out hpm; have s1 := hS'.cell Z0.out (by show ¬ w.heap.size = mb; omega); have s2 := hS'.cell Z1.out (by show ¬ w.heap.size = mb; omega); go_simp; (first | done | exact rfl | (rw [if_pos (by omega)]; done)))); (focus exact hS))
    (try simp only [Act.put, List.setIfInBounds_toArray, List.set_cons_zero, List.set_cons_succ])
    refine seq_loud (o := { dst := none, op := Op.entryStore 54 (Operand.tmp 49) (Operand.tmp 55) (Operand.tmp 51), type := 0, pos := "regs.go:72", after := #[{ on := 8, ground := Ground.data }, { on := 15, ground := Ground.data }, { on := 10, ground := Ground.data }, { on := 14, ground := Ground.chain }, { on := 0, ground := Ground.phase }, { on := 1, ground := Ground.phase }, { on := 2, ground := Ground.phase }, { on := 3, ground := Ground.phase }, { on := 4, ground := Ground.phase }, { on := 5, ground := Ground.phase }, { on := 6, ground := Ground.phase }, { on := 7, ground := Ground.phase }, { on := 8, ground := Ground.phase }, { on := 9, ground := Ground.phase }, { on := 10, ground := Ground.phase }, { on := 11, ground := Ground.phase }, { on := 12, ground := Ground.phase }, { on := 13, ground := Ground.phase }, { on := 14, ground := Ground.phase }], guard := none }) rfl (fun K hK => ?_)
    obtain ⟨w7, hrun, hM7, hg7⟩ := hst1 (.agg #[.slice (some ⟨g, 0, none⟩) y.lines.length cg, .bool y.whole]); simp only [goInt] at hrun; go_simp; clear hS; have hS : Upd (fun j => j = mb) w5 w7 := HS5.out.grown hg7 (fun j _ e => by cases e; rfl); have hS57 : Upd (fun j => j = mb) wq w7 := (Upd.refl (fun j => j = mb) wq).grown hg7 (fun j _ e => by cases e; rfl); refine hK _ _ (fun _ => hS) ?_; clear hK K hrun
    (try simp only [Act.put, List.setIfInBounds_toArray, List.set_cons_zero, List.set_cons_succ])
    refine seq_nil ?_
    have hR5 := HR3.out.set hM5 HS5.out HX3.out ⟨hb2, hlen⟩
    have hR7 := hR5.set hM7 hS57 (HX3.out.upd HS5.out HR3.out.nocell) ⟨hb2, hlen⟩
    go_wp2
    go_ret
    exact ⟨rfl, n + 1 + 1, ⟨_, hR7⟩, by omega, ((false_upd hB5).mono (fun _ _ h => h.elim)).then hS (fun _ _ h => h)⟩
end Go.Proofs.Ytlhcojclfgbobaa
