/- The chapter's example for expand is laid as it is said. -/
import Derived.Test.YtalgdihaeglleaaExpH
import Derived.Great.CaseRows
import Derived.Deep.WholeRow
import Derived.Laws.Tables
namespace Go.Proofs.Ytalgdihaeglleaa
open Go.RowKit

def matchV (from_ to_ : Int) (mb me : Nat → Int) : Array Value :=
  #[.int .i64 from_, .int .i64 to_, .int .i64 (mb 0), .int .i64 (mb 1), .int .i64 (mb 2), .int .i64 (mb 3), .int .i64 (mb 4), .int .i64 (mb 5), .int .i64 (mb 6), .int .i64 (mb 7), .int .i64 (mb 8), .int .i64 (mb 9),
    .int .i64 (me 0), .int .i64 (me 1), .int .i64 (me 2), .int .i64 (me 3), .int .i64 (me 4), .int .i64 (me 5), .int .i64 (me 6), .int .i64 (me 7), .int .i64 (me 8), .int .i64 (me 9)]
theorem matchV_is (f t : Int) (mb me : Nat → Int) : IsMatch (matchV f t mb me) mb me := by
  refine ⟨rfl, fun j hj => ?_, fun j hj => ?_⟩
  all_goals (match j, hj with
    | 0, _ => rfl | 1, _ => rfl | 2, _ => rfl | 3, _ => rfl | 4, _ => rfl | 5, _ => rfl | 6, _ => rfl | 7, _ => rfl | 8, _ => rfl | 9, _ => rfl)

def knownTs : List Tm := [⟨4, ⟨#[]⟩, 0, 117⟩, ⟨2, ⟨#[]⟩, 0, 0⟩, ⟨1, ⟨#[120]⟩, 0, 0⟩, ⟨4, ⟨#[]⟩, 0, 85⟩, ⟨2, ⟨#[]⟩, 0, 0⟩]
def knownE (j : Nat) : Int := if j = 0 then 2 else 0
theorem known_lines : expLines ⟨#[97, 98]⟩ (fun _ => 0) knownE knownTs = [[65, 98, 120, 65, 66]] := by decide +kernel

/-- The lines told, opened: one line. -/
theorem one_line {w : World} {base : Nat} {e : TypeId} {v : Value} {l : List UInt8} {xs : List (List UInt8)} (h : w.ownsRow base e 1 v xs.length (strsV xs)) (hx : xs = [l]) :
    ∃ b o cap, v = .slice (some ⟨b, o, none⟩) 1 cap ∧ w.cell? ⟨b, o, none⟩ = some (.string ⟨l.toArray⟩) := by
  subst hx
  obtain ⟨a, cap, rfl, hc⟩ := StrsAt.of_owns h
  obtain ⟨b, o, rfl, hd⟩ := hc 0 (by simp)
  exact ⟨b, o, cap, rfl, hd⟩

def Tm.val (t : Tm) : Value := .agg t.cells.toArray
theorem vals_cells (ts : List Tm) : ((ts.map Tm.val).flatMap fun v => v.cells.toList) = tmCells ts := by
  induction ts with
  | nil => rfl
  | cons t ts ih => simp only [List.map_cons, List.flatMap_cons, ih]; rfl

theorem IsMatch.setB {cs : Array Value} {mb me : Nat → Int} (h : IsMatch cs mb me) (k : Nat) (hk : k < 10) (v : Int) : IsMatch (cs.setIfInBounds (2 + k) (.int .i64 v)) (fun j => if j = k then v else mb j) me := by
  have hs := h.size
  refine ⟨by simpa using hs, fun j hj => ?_, fun j hj => ?_⟩
  · by_cases hjk : j = k
    · subst hjk; rw [Array.getElem?_setIfInBounds_self_of_lt (by omega)]; simp
    · rw [Array.getElem?_setIfInBounds_ne (by omega)]; simp [hjk, h.b j hj]
  · rw [Array.getElem?_setIfInBounds_ne (by omega)]; exact h.e j hj
theorem IsMatch.setE {cs : Array Value} {mb me : Nat → Int} (h : IsMatch cs mb me) (k : Nat) (hk : k < 10) (v : Int) : IsMatch (cs.setIfInBounds (12 + k) (.int .i64 v)) mb (fun j => if j = k then v else me j) := by
  have hs := h.size
  refine ⟨by simpa using hs, fun j hj => ?_, fun j hj => ?_⟩
  · rw [Array.getElem?_setIfInBounds_ne (by omega)]; exact h.b j hj
  · by_cases hjk : j = k
    · subst hjk; rw [Array.getElem?_setIfInBounds_self_of_lt (by omega)]; simp
    · rw [Array.getElem?_setIfInBounds_ne (by omega)]; simp [hjk, h.e j hj]

/-- New memory with pieces, opened. -/
theorem tms_new (w : World) (ts : List Tm) (T : TypeId) : TmsAt (w.alloc (.cells (tmCells ts).toArray T)) (some ⟨w.heap.size, 0, none⟩) ts := TmsAt.of_block (heap_alloc_new _ _) rfl

set_option maxRecDepth 100000 in
set_option maxHeartbeats 2000000 in
theorem known_any (w : World) : Calls Try.prog 8 #[] w fun e w' => e = .returned (.bool true) ∧ Below w.heap.size w w' := by
  obtain ⟨c0, hc0⟩ : ∃ c0, matchV 0 2 (fun _ => 0) (fun _ => 0) = c0 := ⟨_, rfl⟩
  have hm0 : IsMatch c0 (fun _ => 0) (fun _ => 0) := hc0 ▸ matchV_is _ _ _ _
  have Hc0 := Lib.hid hc0
  clear hc0
  have hm1 := hm0.setE 0 (by omega) 2
  obtain ⟨c1, hc1⟩ : ∃ c1, c0.setIfInBounds 12 (.int .i64 2) = c1 := ⟨_, rfl⟩
  have Hc1 := Lib.hid hc1
  replace hm1 : IsMatch c1 (fun _ => 0) knownE := hc1 ▸ hm1
  clear hc1
  go_enter Try.func8, Try.ntmps8
  go_wp2_with (first
    | (refine wpList_store_row rfl 25 _ _ rfl w.heap.size (matchV 0 2 (fun _ => 0) (fun _ => 0)) rfl rfl 25 _ (heap_alloc_new _ _) (by kernel_rfl) rfl (by kernel_rfl) ?_; rw [World.setRow_alloc_new, Hc0.out]; generalize hW : w.alloc (.cells c0 25) = W1; have hH : W1.heap[w.heap.size]? = some (.cells c0 25 (0, 0)) := hW ▸ heap_alloc_new _ _; have hB : Below w.heap.size w W1 := hW ▸ (Below.refl _ _).alloc (Nat.le_refl _) _; have hs : W1.heap.size = w.heap.size + 1 := hW ▸ (by simp); clear hW; have d0 := cell_of hH 12 (hm0.e 0 (by omega)); have d1 := free_of hH 12)
    | (refine Great.wpList_buildRows rfl 30 29 _ 4 (knownTs.map Tm.val) rfl (fun i => 7 + i) (w.heap.size + 1) (by simp [hs]) _ rfl Try.underlying30 (by kernel_rfl) (by kernel_rfl) (by decide) (by decide) (by decide) rfl (by intro v hv; simp only [List.mem_map] at hv; obtain ⟨t, _, rfl⟩ := hv; rfl) (by intro i hi; match i, hi with | 0, _ => rfl | 1, _ => rfl | 2, _ => rfl | 3, _ => rfl | 4, _ => rfl) ?_
       rw [vals_cells]
       have hH1 := heap_set hH 12 (.int .i64 2)
       rw [Hc1.out] at hH1
       have hB1 : Below w.heap.size w (W1.setCell ⟨w.heap.size, 12, none⟩ (.int .i64 2)) := hB.setCell (Nat.le_refl _) _
       have hs1 : (W1.setCell ⟨w.heap.size, 12, none⟩ (.int .i64 2)).heap.size = w.heap.size + 1 := by simp [hs]
       clear d0 d1 hB hs hH
       generalize W1.setCell ⟨w.heap.size, 12, none⟩ (.int .i64 2) = W2 at *
       have hT := hs1 ▸ tms_new W2 knownTs 29
       have hH2 : (W2.alloc (.cells (tmCells knownTs).toArray 29)).heap[w.heap.size]? = some (.cells c1 25 (0, 0)) := by rw [Below.heap_alloc _ _ _ (by omega)]; exact hH1
       have hB2 : Below w.heap.size w (W2.alloc (.cells (tmCells knownTs).toArray 29)) := hB1.alloc (by omega) _
       clear hH1 hB1 hs1
       generalize W2.alloc (.cells (tmCells knownTs).toArray 29) = W3 at *
       simp only [show (knownTs.map Tm.val).length = 5 from rfl])
    | (refine wpList_load_row rfl 25 _ rfl w.heap.size rfl 25 c1 (0, 0) _ hH2 rfl rfl (by rw [hm1.size]; kernel_rfl) ?_)
    | (go_at_call 9; refine (lines_any (some ⟨w.heap.size + 1, 0, none⟩) 5 knownTs ⟨#[97, 98]⟩ c1 _ _ _ hT hm1 (by decide) (by decide) (by decide)).mono ?_; rintro e w1 ⟨dv, rfl, hB3, hO⟩; obtain ⟨b, o, cap, rfl, hc⟩ := one_line hO known_lines; clear hO; have hB4 := hB2.trans (hB3.mono hB2.size); clear hB2 hB3 hT hH2))
  go_ret
  exact ⟨rfl, hB4⟩

/-- A match in new memory. -/
theorem match_new (w : World) (c : Array Value) (T : TypeId) : (w.alloc (.cells c T)).heap[w.heap.size]? = some (.cells c T (0, 0)) ∧ Below w.heap.size w (w.alloc (.cells c T)) ∧ (w.alloc (.cells c T)).heap.size = w.heap.size + 1 :=
  ⟨heap_alloc_new _ _, (Below.refl _ _).alloc (Nat.le_refl _) _, by simp⟩

end Go.Proofs.Ytalgdihaeglleaa
