/- Registers in memory; contracts of New and Get. -/
import Derived.Test.YtlhcojclfgbobaaRegD
import Derived.Laws.ResultCell
namespace Go.Proofs.Ytlhcojclfgbobaa
open Go.RowKit

/-- Registers in memory: the struct's block p, the map's block mb, the map's values V, what they are M. -/
structure RegsAt (w : World) (p mb n : Nat) (V : Int → Option Value) (M : Int → Option RegD) : Prop where
  blk : w.heap[p]? = some (.cells #[.map (some mb)] 56 (0, 0))
  map : MapAt w mb n V
  el : ∀ c, 0 ≤ c → c ≤ 255 → (V c = none ∧ M c = none) ∨ (∃ v r, V c = some v ∧ M c = some r ∧ RegAt w v r)
  short : ∀ c r, M c = some r → wrap64 (sizeR r) ≤ 20000 ∧ r.lines.length ≤ 8796093021952

theorem RegsAt.upd {F : Nat → Prop} {w w' : World} {p mb n : Nat} {V : Int → Option Value} {M : Int → Option RegD} (h : RegsAt w p mb n V M) (hu : Upd F w w') (hp : ¬ F p) (hm : ¬ F mb) (hF : ∀ k, F k → ∀ o, w.cell? ⟨k, o, none⟩ = none) : RegsAt w' p mb n V M :=
  ⟨hu.heap h.blk hp, h.map.upd hu hm, fun c c0 c1 => by
    rcases h.el c c0 c1 with h | ⟨v, r, h1, h2, h3⟩
    · exact .inl h
    · exact .inr ⟨v, r, h1, h2, h3.upd hu hF⟩, h.short⟩
theorem RegsAt.below {w w' : World} {p mb n : Nat} {V : Int → Option Value} {M : Int → Option RegD} (h : RegsAt w p mb n V M) (hu : Below w.heap.size w w') : RegsAt w' p mb n V M :=
  h.upd (false_upd hu) (fun h => h) (fun h => h) (fun _ h => h.elim)

set_option maxHeartbeats 400000 in
theorem New_any (w : World) :
    Calls Try.prog 11 #[] w fun e w' => e = .returned (.pointer (some ⟨w.heap.size + 1, 0, none⟩)) ∧ RegsAt w' (w.heap.size + 1) w.heap.size 0 (fun _ => none) (fun _ => none) ∧ Below w.heap.size w w' ∧ w.heap.size + 2 ≤ w'.heap.size := by
  have hmm := @run_makeMap Try.prog
  go_enter Try.func11, Try.ntmps11
  go_wp2
  go_ret
  refine ⟨rfl, ⟨heap_new2 _ _ _ _, ?_, fun c _ _ => .inl ⟨rfl, rfl⟩, by simp⟩, below_two _ _ _, by simp⟩
  exact (MapAt.new w).upd ((Upd.refl (fun _ => False) _).alloc _) (fun h => h)

/-- Two results, the first one a struct in a block. -/
theorem results_row_tmp {P : Program} {fn : Func} {p u : Tmp} {ty : TypeId} (h : fn.results = #[.cell p ty, .tmp u]) (tmps : Array Value) (w : World) (g : Nat) (t : TypeId) (cs : Array Value) (fr : Nat × Nat) (d : TypeDesc)
    (hp : tmps.getD p undef = .pointer (some ⟨g, 0, none⟩)) (hg : w.heap[g]? = some (.cells cs t fr))
    (hu : P.underlying ty = some d) (hd : (match d with | .struct _ | .array _ _ => true | _ => false) = true) (hi : (P.info? ty).map (·.size) = some cs.size) :
    (results fn tmps).run P w = .ok (.tuple #[.agg cs, tmps.getD u undef]) w := by
  rw [results_cell_tmp h, hp]
  simp [asAddr, run_loadVar_row w g t ty cs fr d hg hu hd hi, Result.andThen]

/-- Two cells of a block, written anew. -/
theorem heap_two {w : World} {b : Nat} {a0 a1 v0 v1 : Value} {T : TypeId} (h : w.heap[b]? = some (.cells #[a0, a1] T (0, 0))) : ((w.setCell ⟨b, 0, none⟩ v0).setCell ⟨b, 1, none⟩ v1).heap[b]? = some (.cells #[v0, v1] T (0, 0)) :=
  heap_set (heap_set h 0 v0) 1 v1

def getM (M : Int → Option RegD) (c : Int) : RegD × Int :=
  if knownN c = false then (⟨[], false⟩, 110) else match M (smallI c) with
    | none => (⟨[], false⟩, 111)
    | some r => (r.clone, 0)

theorem cell1_of {w : World} {p mb n : Nat} {V : Int → Option Value} {M : Int → Option RegD} (h : RegsAt w p mb n V M) : w.cell? ⟨p, 0, none⟩ = some (.map (some mb)) := cell_of h.blk 0 rfl

set_option maxHeartbeats 2000000 in
set_option maxRecDepth 100000 in
theorem Get_any (p mb n : Nat) (V : Int → Option Value) (M : Int → Option RegD) (c : Int) (c0 : 0 ≤ c) (c1 : c ≤ 255) (w : World) (h : RegsAt w p mb n V M) :
    Calls Try.prog 13 #[.pointer (some ⟨p, 0, none⟩), .int .u8 c] w fun e w' => ∃ u, e = .returned (.tuple #[u, .int .u16 (getM M c).2]) ∧ RegAt w' u (getM M c).1 ∧ Below w.heap.size w w' := by
  have hsr := smallI_rng c0 c1
  have P := cell1_of h
  rcases h.el (smallI c) hsr.1 hsr.2 with ⟨hV, hM⟩ | ⟨v, r, hV, hM, hr⟩
  · have hlook : Hid (∀ w', Upd (fun _ => False) w w' → (Instr.lookup 54 (.map (some mb)) (.int .u8 (smallI c)) true).run Try.prog w' = .ok (.tuple #[.agg #[.slice none 0 0, .bool false], .bool false]) w') := Lib.hid (fun w' hu => by
      have := (h.map.upd hu (fun h => h)).look hsr.1 hsr.2
      rw [hV] at this
      exact this)
    have hg : getM M c = (⟨[], false⟩, if knownN c = false then 110 else 111) := by unfold getM; rw [hM]; split <;> rfl
    rw [hg]
    clear hg hM hV h
    go_enter Try.func13, Try.ntmps13
    go_wp2
    have hb4 : (w.alloc (Obj.cells #[Value.slice none 0 0, Value.bool false] 24)).heap[w.heap.size]? = some (.cells #[Value.slice none 0 0, Value.bool false] 24 (0, 0)) := heap_alloc_new _ _
    have hU1 : Upd (fun _ => False) w (w.alloc (Obj.cells #[Value.slice none 0 0, Value.bool false] 24)) := (Upd.refl _ _).alloc _
    have hs1 : (w.alloc (Obj.cells #[Value.slice none 0 0, Value.bool false] 24)).heap.size = w.heap.size + 1 := by simp
    generalize w.alloc (Obj.cells #[Value.slice none 0 0, Value.bool false] 24) = W1 at *
    have HP := Lib.hid (hU1.cell P (fun h => h))
    have HU1 := Lib.hid hU1
    have H4 := Lib.hid hb4
    clear P hU1 hb4
    have P1 := HP.out
    have L0 := hlook.out W1.drew (HU1.out.drew)
    have L1 := fun o => hlook.out (W1.alloc o).drew ((HU1.out.alloc o).drew)
    have L2 := fun o => hlook.out (W1.drew.alloc o) ((HU1.out.drew.alloc o))
    have Q1 := fun o => ((Upd.refl (fun _ => False) W1).alloc o).cell P1 (fun h => h)
    go_region_with (go_at_call 28; refine (Small_any _ c0 c1 _).mono ?_; rintro e w' ⟨rfl, rfl⟩)
    all_goals
      generalize hW2 : (W1.alloc (Obj.cells #[Value.slice none 0 0, Value.bool false] 24)).drew = W2 at *
      have hU2 : Upd (fun _ => False) W1 W2 := hW2 ▸ ((Upd.refl _ _).alloc _).drew
      clear hW2 L0 L1 L2 Q1
      have h4 := hU2.heap H4.out (fun h => h)
      have d0 := cell_of h4 0 (v := .slice none 0 0) rfl
      have d1 := cell_of h4 1 (v := .bool false) rfl
      have f0 := free_of h4 0
      have f1 := free_of h4 1
      have hB2 : Below w.heap.size w W2 := (HU1.out.trans hU2).below (Nat.le_refl _) (fun _ _ h => h)
      cases hk : knownN c
      · go_wp2_with (go_at_call 16; refine (RKnown_any c c0 c1 _).mono ?_; rw [hk]; rintro e w' ⟨rfl, rfl⟩)
        exact bodyPost_ret (v := .tuple #[.agg #[.slice none 0 0, .bool false], .int .u16 110]) (results_row_tmp Try.results13 _ _ w.heap.size 24 _ (0, 0) _ rfl (heap_two h4) Try.underlying24 rfl (by kernel_rfl)) rfl ⟨_, rfl, ⟨_, rfl, none, 0, rfl, fun i hi => by simp at hi⟩, (hB2.setCell (Nat.le_refl _) _).setCell (Nat.le_refl _) _⟩
      · go_wp2_with (go_at_call 16; refine (RKnown_any c c0 c1 _).mono ?_; rw [hk]; rintro e w' ⟨rfl, rfl⟩)
        all_goals exact bodyPost_ret (v := .tuple #[.agg #[.slice none 0 0, .bool false], .int .u16 111]) (results_row_tmp Try.results13 _ _ w.heap.size 24 _ (0, 0) _ rfl (heap_two h4) Try.underlying24 rfl (by kernel_rfl)) rfl ⟨_, rfl, ⟨_, rfl, none, 0, rfl, fun i hi => by simp at hi⟩, (hB2.setCell (Nat.le_refl _) _).setCell (Nat.le_refl _) _⟩
  · obtain ⟨lv, rfl, hst⟩ := hr
    have hlook : Hid (∀ w', Upd (fun _ => False) w w' → (Instr.lookup 54 (.map (some mb)) (.int .u8 (smallI c)) true).run Try.prog w' = .ok (.tuple #[.agg #[lv, .bool r.whole], .bool true]) w') := Lib.hid (fun w' hu => by
      have := (h.map.upd hu (fun h => h)).look hsr.1 hsr.2
      rw [hV] at this
      exact this)
    have hg : getM M c = if knownN c = false then (⟨[], false⟩, 110) else (r.clone, 0) := by unfold getM; rw [hM]
    rw [hg]
    have hR : RegAt w (.agg #[lv, .bool r.whole]) r := ⟨lv, rfl, hst⟩
    have HR := Lib.hid hR
    have hsh : r.lines.length ≤ 8796093021952 := (h.short _ _ hM).2
    obtain ⟨la, lcap, rfl, _⟩ := hst
    clear hg hM hV h hR
    go_enter Try.func13, Try.ntmps13
    go_wp2
    have hb4 : (w.alloc (Obj.cells #[Value.slice none 0 0, Value.bool false] 24)).heap[w.heap.size]? = some (.cells #[Value.slice none 0 0, Value.bool false] 24 (0, 0)) := heap_alloc_new _ _
    have hU1 : Upd (fun _ => False) w (w.alloc (Obj.cells #[Value.slice none 0 0, Value.bool false] 24)) := (Upd.refl _ _).alloc _
    have hs1 : (w.alloc (Obj.cells #[Value.slice none 0 0, Value.bool false] 24)).heap.size = w.heap.size + 1 := by simp
    generalize w.alloc (Obj.cells #[Value.slice none 0 0, Value.bool false] 24) = W1 at *
    have HP := Lib.hid (hU1.cell P (fun h => h))
    have HU1 := Lib.hid hU1
    have H4 := Lib.hid hb4
    clear P hU1 hb4
    have P1 := HP.out
    have L0 := hlook.out W1.drew (HU1.out.drew)
    have L1 := fun o => hlook.out (W1.alloc o).drew ((HU1.out.alloc o).drew)
    have L2 := fun o => hlook.out (W1.drew.alloc o) ((HU1.out.drew.alloc o))
    have Q1 := fun o => ((Upd.refl (fun _ => False) W1).alloc o).cell P1 (fun h => h)
    go_region_with (go_at_call 28; refine (Small_any _ c0 c1 _).mono ?_; rintro e w' ⟨rfl, rfl⟩)
    all_goals
      generalize hW2 : (W1.alloc (Obj.cells #[Value.slice la r.lines.length lcap, Value.bool r.whole] 24)).drew = W2 at *
      have hU2 : Upd (fun _ => False) W1 W2 := hW2 ▸ ((Upd.refl _ _).alloc _).drew
      have h6 : W2.heap[w.heap.size + 1]? = some (.cells #[Value.slice la r.lines.length lcap, Value.bool r.whole] 24 (0, 0)) := by
        rw [← hW2, ← hs1]; exact heap_alloc_new _ _
      clear hW2 L0 L1 L2 Q1
      have h4 := hU2.heap H4.out (fun h => h)
      have d0 := cell_of h4 0 (v := .slice none 0 0) rfl
      have d1 := cell_of h4 1 (v := .bool false) rfl
      have f0 := free_of h4 0
      have f1 := free_of h4 1
      have e0 := cell_of h6 0 (v := Value.slice la r.lines.length lcap) rfl
      have e1 := cell_of h6 1 (v := Value.bool r.whole) rfl
      have hB2 : Below w.heap.size w W2 := (HU1.out.trans hU2).below (Nat.le_refl _) (fun _ _ h => h)
      cases hk : knownN c
      · go_wp2_with (go_at_call 16; refine (RKnown_any c c0 c1 _).mono ?_; rw [hk]; rintro e w' ⟨rfl, rfl⟩)
        all_goals exact bodyPost_ret (v := .tuple #[.agg #[.slice none 0 0, .bool false], .int .u16 110]) (results_row_tmp Try.results13 _ _ w.heap.size 24 _ (0, 0) _ rfl (heap_two h4) Try.underlying24 rfl (by kernel_rfl)) rfl ⟨_, rfl, ⟨_, rfl, none, 0, rfl, fun i hi => by simp at hi⟩, (hB2.setCell (Nat.le_refl _) _).setCell (Nat.le_refl _) _⟩
      · go_wp2_with (first
          | (go_at_call 16; refine (RKnown_any c c0 c1 _).mono ?_; rw [hk]; rintro e w' ⟨rfl, rfl⟩)
          | (go_at_call 26
             refine (clone_any _ r _ (HR.out.below hB2) hsh).mono ?_
             rintro e w3 ⟨u, rfl, ⟨ul, rfl, uo⟩, hb3⟩
             have hU3 := false_upd hb3
             have hB3 := hB2.trans (hb3.mono hB2.size)
             replace h4 := hU3.heap h4 (fun h => h)
             clear d0 d1 f0 f1 e0 e1 h6
             have d0 := cell_of h4 0 (v := .slice none 0 0) rfl
             have d1 := cell_of h4 1 (v := .bool false) rfl
             have f0 := free_of h4 0
             have f1 := free_of h4 1
             have hpos : 0 < r.clone.lines.length := List.length_pos_iff.2 r.clone_ne
             obtain ⟨g, cg, rfl, hg0, hg1⟩ := uo.form hpos))
        all_goals first
          | (have hsz := hU2.size
             have he : (Value.slice (some ⟨g, 0, none⟩) r.clone.lines.length cg).ownBlock ≠ some w.heap.size := by simp [Value.ownBlock]; omega
             exact bodyPost_ret (v := .tuple #[.agg #[.slice (some ⟨g, 0, none⟩) r.clone.lines.length cg, .bool r.clone.whole], .int .u16 0]) (results_row_tmp Try.results13 _ _ w.heap.size 24 _ (0, 0) _ rfl (heap_two h4) Try.underlying24 rfl (by kernel_rfl)) rfl ⟨_, rfl, ⟨_, rfl, StrsAt.of_owns (ownsRow_set (ownsRow_set uo he _) he _)⟩, (hB3.setCell (Nat.le_refl _) _).setCell (Nat.le_refl _) _⟩)
          | (exfalso; simp_all; done)
end Go.Proofs.Ytlhcojclfgbobaa
