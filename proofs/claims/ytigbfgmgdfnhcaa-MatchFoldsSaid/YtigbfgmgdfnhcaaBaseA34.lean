/- Lemmas that the law's proof stands on, part 34: MatP, Mat. No condition. -/
import Derived.Test.YtigbfgmgdfnhcaaBaseA0
import Derived.Test.YtigbfgmgdfnhcaaBaseA33
set_option linter.all false
set_option linter.unusedVariables false
set_option linter.unusedSimpArgs false
namespace Go.Proofs.Ytigbfgmgdfnhcaa
open Go.RowKit
def matchL (m : MatchD) : List Value := .int .i64 m.from_ :: .int .i64 m.to_ :: (m.beg.map (Value.int .i64) ++ m.end_.map (Value.int .i64))
def matchC (m : MatchD) : Array Value := (matchL m).toArray
theorem match_size (m : MatchD) (h1 : m.beg.length = 10) (h2 : m.end_.length = 10) : (matchC m).size = 22 := by simp [matchC, matchL, h1, h2]
theorem match_from (m : MatchD) : (matchC m)[0]? = some (.int .i64 m.from_) := rfl
theorem match_to (m : MatchD) : (matchC m)[1]? = some (.int .i64 m.to_) := rfl
theorem match_set_beg (m : MatchD) (k : Nat) (x : Int) (h : k < m.beg.length) : (matchC m).setIfInBounds (2 + k) (.int .i64 x) = matchC { m with beg := m.beg.set k x } := by
  simp only [matchC, matchL, show 2 + k = k + 2 by omega, zzT, zzS]
  rw [List.set_append_left _ _ (by simpa using h), List.map_set]
theorem match_set_end (m : MatchD) (k : Nat) (x : Int) (h : m.beg.length = 10) : (matchC m).setIfInBounds (12 + k) (.int .i64 x) = matchC { m with end_ := m.end_.set k x } := by
  simp only [matchC, matchL, show 12 + k = (10 + k) + 2 by omega, zzT, zzS]
  rw [List.set_append_right _ _ (by simp [h]), List.map_set]
  simp [h]
theorem match_beg (m : MatchD) (k : Nat) (h : k < m.beg.length) : (matchC m)[2 + k]? = some (.int .i64 (m.beg.getD k 0)) := by
  simp only [matchC, matchL, List.getElem?_toArray, show 2 + k = k + 2 by omega, List.getElem?_cons_succ]
  rw [List.getElem?_append_left (by simpa using h), List.getElem?_map, List.getElem?_eq_getElem h, List.getD_eq_getElem?_getD, List.getElem?_eq_getElem h]
  rfl
theorem match_end (m : MatchD) (k : Nat) (h : m.beg.length = 10) (h2 : k < m.end_.length) : (matchC m)[12 + k]? = some (.int .i64 (m.end_.getD k 0)) := by
  simp only [matchC, matchL, List.getElem?_toArray, show 12 + k = (10 + k) + 2 by omega, List.getElem?_cons_succ]
  rw [List.getElem?_append_right (by simp [h]), List.length_map, h, Nat.add_sub_cancel_left, List.getElem?_map, List.getElem?_eq_getElem h2, List.getD_eq_getElem?_getD, List.getElem?_eq_getElem h2]
  rfl
/-- Groups, one behind the other. -/
def grpF (g : Nat → Int) : Nat → List Int → List Int
  | 0, l => l
  | k + 1, l => (grpF g k l).set (k + 1) (g (k + 1))
theorem grpF_len (g : Nat → Int) (l : List Int) : ∀ k, (grpF g k l).length = l.length
  | 0 => rfl
  | k + 1 => by simp [grpF, grpF_len g l k]
theorem grpF_nine (g : Nat → Int) (f : Int) : grpF g 9 (f :: List.replicate 9 0) = f :: (List.range 9).map (fun k => g (k + 1)) := rfl
def goodG (t : TryD) (n : Nat) : Bool := decide (0 ≤ t.slots.getD (2 * n) 0) && decide (t.slots.getD (2 * n) 0 ≤ t.slots.getD (2 * n + 1) 0)
def begG (t : TryD) (n : Nat) : Int := if goodG t n = true then t.slots.getD (2 * n) 0 else -1
def endG (t : TryD) (n : Nat) : Int := if goodG t n = true then t.slots.getD (2 * n + 1) 0 else -1
def fromG (t : TryD) (a : Nat) : Int := if t.slots.getD 20 0 < 0 then (a : Int) else t.slots.getD 20 0
def toG (t : TryD) : Int := if t.slots.getD 21 0 < 0 then (t.pos : Int) else t.slots.getD 21 0
theorem matchF_eq (t : TryD) (a : Nat) : matchF t a = ⟨fromG t a, max (fromG t a) (toG t), fromG t a :: (List.range 9).map (fun k => begG t (k + 1)), max (fromG t a) (toG t) :: (List.range 9).map (fun k => endG t (k + 1))⟩ := rfl
def partM (t : TryD) (a k : Nat) : MatchD := ⟨fromG t a, max (fromG t a) (toG t), grpF (begG t) k (fromG t a :: List.replicate 9 0), grpF (endG t) k (max (fromG t a) (toG t) :: List.replicate 9 0)⟩
theorem partM_nine (t : TryD) (a : Nat) : partM t a 9 = matchF t a := by
  rw [matchF_eq]; unfold partM; rw [grpF_nine, grpF_nine]
theorem partM_blen (t : TryD) (a k : Nat) : (partM t a k).beg.length = 10 := by unfold partM; simp [grpF_len]
theorem partM_elen (t : TryD) (a k : Nat) : (partM t a k).end_.length = 10 := by unfold partM; simp [grpF_len]
theorem partM_skip (t : TryD) (a k : Nat) (h : goodG t (k + 1) = false) : ({ partM t a k with beg := (partM t a k).beg.set (k + 1) (-1), end_ := (partM t a k).end_.set (k + 1) (-1) } : MatchD) = partM t a (k + 1) := by
  unfold partM
  simp only [grpF, begG, endG, h, Bool.false_eq_true, if_false]
theorem partM_take (t : TryD) (a k : Nat) (h : goodG t (k + 1) = true) : ({ partM t a k with beg := (partM t a k).beg.set (k + 1) (t.slots.getD (2 * (k + 1)) 0), end_ := (partM t a k).end_.set (k + 1) (t.slots.getD (2 * (k + 1) + 1) 0) } : MatchD) = partM t a (k + 1) := by
  unfold partM
  simp only [grpF, begG, endG, h, if_true]
end Go.Proofs.Ytigbfgmgdfnhcaa
namespace Go.Proofs.Ytigbfgmgdfnhcaa
open Go.RowKit
theorem slot_cell {w : World} {b n : Nat} {T : TypeId} {t : TryD} {rv : Value} (k : Nat) (hk : k < 22) (ht : TryOK n t) (h : w.heap[b]? = some (.cells (tryC t rv) T (0, 0))) : w.cell? ⟨b, 2 + k, none⟩ = some (.int .i64 (t.slots.getD k 0)) :=
  cell_of h (2 + k) (try_slot t rv k (by rw [ht.sl]; exact hk))
theorem match_one (m : MatchD) : (matchC m).toList.all (·.oneCell') = true := by
  refine List.all_eq_true.2 (fun u hu => ?_)
  simp only [matchC, matchL, List.mem_cons, List.mem_append, List.mem_map] at hu
  rcases hu with rfl | rfl | ⟨x, _, rfl⟩ | ⟨x, _, rfl⟩ <;> rfl
theorem Upd.old {w w' : World} (h : Upd (fun k => w.heap.size ≤ k) w w') : Upd (fun _ => False) w w' := h.mono (fun k hk hle => by omega)
theorem good_split (t : TryD) (n : Nat) (h : -1 ≤ t.slots.getD (2 * n) 0) : (goodG t n = true ∧ 0 ≤ t.slots.getD (2 * n) 0 ∧ t.slots.getD (2 * n) 0 ≤ t.slots.getD (2 * n + 1) 0) ∨ (goodG t n = false ∧ t.slots.getD (2 * n) 0 = -1) ∨ (goodG t n = false ∧ 0 ≤ t.slots.getD (2 * n) 0 ∧ t.slots.getD (2 * n + 1) 0 < t.slots.getD (2 * n) 0) := by
  unfold goodG
  by_cases h1 : 0 ≤ t.slots.getD (2 * n) 0
  · by_cases h2 : t.slots.getD (2 * n) 0 ≤ t.slots.getD (2 * n + 1) 0
    · exact .inl ⟨by rw [decide_eq_true h1, decide_eq_true h2]; rfl, h1, h2⟩
    · exact .inr (.inr ⟨by rw [decide_eq_false h2, Bool.and_false], h1, by omega⟩)
  · exact .inr (.inl ⟨by rw [decide_eq_false h1, Bool.false_and], by omega⟩)
set_option maxRecDepth 100000 in
set_option maxHeartbeats 8000000 in
theorem match_any {w : World} (bT n : Nat) (rv : Value) (t : TryD) (a : Nat) (ht : TryOK n t) (ha : a ≤ n) (hn : n ≤ 140737488351232) (kT : w.heap[bT]? = some (.cells (tryC t rv) 54 (0, 0))) :
    Calls Try.prog 26 #[.pointer (some ⟨bT, 0, none⟩), .int .i64 (a : Int)] w fun e w' => e = .returned (.agg (matchC (matchF t a))) ∧ Upd (fun _ => False) w w' := by
  have hU0 := Upd.refl (fun k => w.heap.size ≤ k) w
  have hz := Nat.le_refl w.heap.size
  have HT := Lib.hid ht
  have HK := Lib.hid kT
  have cP := cell_of kT 1 (try_pos t rv)
  have c20 : w.cell? ⟨bT, 22, none⟩ = _ := slot_cell 20 (by decide) ht kT
  have c21 : w.cell? ⟨bT, 23, none⟩ = _ := slot_cell 21 (by decide) ht kT
  have hb := heap_lt kT
  obtain ⟨z, hz20⟩ : ∃ z, t.slots.getD 20 0 = z := ⟨_, rfl⟩
  obtain ⟨y, hy21⟩ : ∃ y, t.slots.getD 21 0 = y := ⟨_, rfl⟩
  have hz1 : -1 ≤ z := by rw [← hz20]; exact (ht.slot 20).1
  have hy1 : -1 ≤ y := by rw [← hy21]; exact (ht.slot 21).1
  rw [hz20] at c20
  rw [hy21] at c21
  obtain ⟨F, hF⟩ : ∃ F, fromG t a = F := ⟨_, rfl⟩
  obtain ⟨O, hO⟩ : ∃ O, toG t = O := ⟨_, rfl⟩
  have HF : Hid ((if z < 0 then (a : Int) else z) = F) := Lib.hid (by rw [← hF, ← hz20]; rfl)
  have HO : Hid ((if y < 0 then (t.pos : Int) else y) = O) := Lib.hid (by rw [← hO, ← hy21]; rfl)
  have HM0 : Hid (matchC (partM t a 0) = #[.int .i64 F, .int .i64 (max F O), .int .i64 F, .int .i64 0, .int .i64 0, .int .i64 0, .int .i64 0, .int .i64 0, .int .i64 0, .int .i64 0, .int .i64 0, .int .i64 0, .int .i64 (max F O), .int .i64 0, .int .i64 0, .int .i64 0, .int .i64 0, .int .i64 0, .int .i64 0, .int .i64 0, .int .i64 0, .int .i64 0]) := Lib.hid (by unfold partM; rw [hF, hO]; rfl)
  have HC21 : Hid (∀ w', Upd (fun k => w.heap.size ≤ k) w w' → w'.cell? ⟨bT, 23, none⟩ = some (.int .i64 y)) := Lib.hid (fun w' hu => hu.cell c21 (show ¬ w.heap.size ≤ bT by omega))
  clear hF hO hz20 hy21 ht kT
  go_enter Try.func26, Try.ntmps26
  go_upto_region 1 with (first
    | ((with_reducible refine stopAl 24 rfl ?_); unfold Stop; refine wpList_alloc_blk rfl 24 rfl (.agg #[.int .i64 0, .int .i64 0, .int .i64 0, .int .i64 0, .int .i64 0, .int .i64 0, .int .i64 0, .int .i64 0, .int .i64 0, .int .i64 0, .int .i64 0, .int .i64 0, .int .i64 0, .int .i64 0, .int .i64 0, .int .i64 0, .int .i64 0, .int .i64 0, .int .i64 0, .int .i64 0, .int .i64 0, .int .i64 0]) (by kernel_rfl) #[.int .i64 0, .int .i64 0, .int .i64 0, .int .i64 0, .int .i64 0, .int .i64 0, .int .i64 0, .int .i64 0, .int .i64 0, .int .i64 0, .int .i64 0, .int .i64 0, .int .i64 0, .int .i64 0, .int .i64 0, .int .i64 0, .int .i64 0, .int .i64 0, .int .i64 0, .int .i64 0, .int .i64 0, .int .i64 0] rfl ?_; intro bR wn hbn kn hUn hsn; have gR : w.heap.size ≤ bR := Nat.le_trans hU0.size (Nat.le_of_eq hbn); have kR := kn; replace hU0 := hU0.then hUn (fun _ _ h => h.elim); replace hz : w.heap.size ≤ wn.heap.size := (by omega); replace cP := hUn.cell cP (fun h => h); replace c20 := hUn.cell c20 (fun h => h); replace c21 := hUn.cell c21 (fun h => h); clear kn hUn hsn hbn; have cR := cells_of kR; (try simp only [matchC, zzT, zzO, zzS] at cR); have fR := frees_of kR))
  go_upto_region 2 with (first
    | ((with_reducible refine stopAl 24 rfl ?_); unfold Stop; refine wpList_alloc_blk rfl 24 rfl (.agg #[.int .i64 0, .int .i64 0, .int .i64 0, .int .i64 0, .int .i64 0, .int .i64 0, .int .i64 0, .int .i64 0, .int .i64 0, .int .i64 0, .int .i64 0, .int .i64 0, .int .i64 0, .int .i64 0, .int .i64 0, .int .i64 0, .int .i64 0, .int .i64 0, .int .i64 0, .int .i64 0, .int .i64 0, .int .i64 0]) (by kernel_rfl) #[.int .i64 0, .int .i64 0, .int .i64 0, .int .i64 0, .int .i64 0, .int .i64 0, .int .i64 0, .int .i64 0, .int .i64 0, .int .i64 0, .int .i64 0, .int .i64 0, .int .i64 0, .int .i64 0, .int .i64 0, .int .i64 0, .int .i64 0, .int .i64 0, .int .i64 0, .int .i64 0, .int .i64 0, .int .i64 0] rfl ?_; intro bM wn hbn kn hUn hsn; clear cR fR; have lRM := heap_lt kR; rw [hbn] at lRM; replace kR := hUn.heap kR (fun h => h); have gM : w.heap.size ≤ bM := Nat.le_trans hU0.size (Nat.le_of_eq hbn); have kM := kn; replace hU0 := hU0.then hUn (fun _ _ h => h.elim); replace hz : w.heap.size ≤ wn.heap.size := (by omega); replace cP := hUn.cell cP (fun h => h); replace c20 := hUn.cell c20 (fun h => h); replace c21 := hUn.cell c21 (fun h => h); clear kn hUn hsn hbn; have cM := cells_of kM; (try simp only [matchC, zzT, zzO, zzS] at cM); have fM := frees_of kM; have cR := cells_of kR; (try simp only [matchC, zzT, zzO, zzS] at cR); have fR := frees_of kR)
    | ((with_reducible refine stopSt 24 _ _ rfl ?_); unfold Stop; refine wpList_store_blk rfl 24 _ _ rfl _ _ rfl _ (by go_simp; first | done | exact rfl) _ _ _ kM (zzB rfl) (by kernel_rfl) rfl (by simp only [spl, matchC, Value.cells, zzT, zzO, zzS, Array.toList]; exact rfl) ?_; intro wn kn hUn hsn; clear cM fM cR fR; replace kR := hUn.heap kR (by omega); replace kM := kn; replace hU0 := hU0.then hUn (fun i hi (e : i = _) => by first | exact e | exact absurd hi (by omega) | (subst e; first | assumption | (show _ ≤ _; omega)) | exact .inl e | exact .inr e | exact .inr (.inl e) | exact .inr (.inr e)); replace hz := Nat.le_trans hz (Nat.le_of_eq hsn.symm); replace cP := hUn.cell cP (show ¬ bT = bM by omega); replace c20 := hUn.cell c20 (show ¬ bT = bM by omega); replace c21 := hUn.cell c21 (show ¬ bT = bM by omega); clear kn hUn hsn; have cM := cells_of kM; (try simp only [matchC, zzT, zzO, zzS] at cM); have fM := frees_of kM; have cR := cells_of kR; (try simp only [matchC, zzT, zzO, zzS] at cR); have fR := frees_of kR))
  have gRM := lRM
  clear lRM
  go_upto_if 23 with fail
  go_simp
  go_cut [6] (fun zv w' => w'.heap[bM]? = some (.cells #[.int .i64 F, .int .i64 t.pos, .int .i64 0, .int .i64 0, .int .i64 0, .int .i64 0, .int .i64 0, .int .i64 0, .int .i64 0, .int .i64 0, .int .i64 0, .int .i64 0, .int .i64 0, .int .i64 0, .int .i64 0, .int .i64 0, .int .i64 0, .int .i64 0, .int .i64 0, .int .i64 0, .int .i64 0, .int .i64 0] 24 (0, 0)) ∧ w'.heap[bR]? = some (.cells #[.int .i64 0, .int .i64 0, .int .i64 0, .int .i64 0, .int .i64 0, .int .i64 0, .int .i64 0, .int .i64 0, .int .i64 0, .int .i64 0, .int .i64 0, .int .i64 0, .int .i64 0, .int .i64 0, .int .i64 0, .int .i64 0, .int .i64 0, .int .i64 0, .int .i64 0, .int .i64 0, .int .i64 0, .int .i64 0] 24 (0, 0)) ∧ Upd (fun k => w.heap.size ≤ k) w w')
  case first =>
    rcases (show z = -1 ∨ 0 ≤ z by omega) with rfl | hzp
    · have e := HF.out
      rw [if_pos (by decide)] at e
      subst e
      go_wp2_with (first
        | ((with_reducible refine stopSt 3 _ _ rfl ?_); unfold Stop; refine wpList_store_blk rfl 3 _ _ rfl _ _ rfl _ (by go_simp; first | done | exact rfl) _ _ _ kM (zzB rfl) (by kernel_rfl) rfl (by simp only [spl, matchC, Value.cells, zzT, zzO, zzS, Array.toList]; exact rfl) ?_; intro wn kn hUn hsn; clear cM fM cR fR; replace kR := hUn.heap kR (by omega); replace kM := kn; replace hU0 := hU0.then hUn (fun i hi (e : i = _) => by first | exact e | exact absurd hi (by omega) | (subst e; first | assumption | (show _ ≤ _; omega)) | exact .inl e | exact .inr e | exact .inr (.inl e) | exact .inr (.inr e)); replace hz := Nat.le_trans hz (Nat.le_of_eq hsn.symm); replace cP := hUn.cell cP (show ¬ bT = bM by omega); replace c20 := hUn.cell c20 (show ¬ bT = bM by omega); replace c21 := hUn.cell c21 (show ¬ bT = bM by omega); clear kn hUn hsn; have cM := cells_of kM; (try simp only [matchC, zzT, zzO, zzS] at cM); have fM := frees_of kM; have cR := cells_of kR; (try simp only [matchC, zzT, zzO, zzS] at cR); have fR := frees_of kR))
      go_meet
      exact ⟨kM, kR, hU0⟩
    · have e := HF.out
      rw [if_neg (by omega)] at e
      subst e
      have h9 : (z != -1) = true := by simp; omega
      go_wp2_with (first
        | ((with_reducible refine stopSt 3 _ _ rfl ?_); unfold Stop; refine wpList_store_blk rfl 3 _ _ rfl _ _ rfl _ (by go_simp; first | done | exact rfl) _ _ _ kM (zzB rfl) (by kernel_rfl) rfl (by simp only [spl, matchC, Value.cells, zzT, zzO, zzS, Array.toList]; exact rfl) ?_; intro wn kn hUn hsn; clear cM fM cR fR; replace kR := hUn.heap kR (by omega); replace kM := kn; replace hU0 := hU0.then hUn (fun i hi (e : i = _) => by first | exact e | exact absurd hi (by omega) | (subst e; first | assumption | (show _ ≤ _; omega)) | exact .inl e | exact .inr e | exact .inr (.inl e) | exact .inr (.inr e)); replace hz := Nat.le_trans hz (Nat.le_of_eq hsn.symm); replace cP := hUn.cell cP (show ¬ bT = bM by omega); replace c20 := hUn.cell c20 (show ¬ bT = bM by omega); replace c21 := hUn.cell c21 (show ¬ bT = bM by omega); clear kn hUn hsn; have cM := cells_of kM; (try simp only [matchC, zzT, zzO, zzS] at cM); have fM := frees_of kM; have cR := cells_of kR; (try simp only [matchC, zzT, zzO, zzS] at cR); have fR := frees_of kR))
      go_meet
      exact ⟨kM, kR, hU0⟩
  case rest =>
    clear kR kM hU0 hz cP c20 c21 cM fM cR fR
    obtain ⟨kM, kR, hU0⟩ := hcut
    obtain ⟨wn, rfl⟩ : ∃ wn, wn = wc := ⟨_, rfl⟩
    have hz := hU0.size
    have c21 : wn.cell? ⟨bT, 23, none⟩ = some (.int .i64 y) := HC21.out wn hU0
    have cM := cells_of kM; (try simp only [matchC, zzT, zzO, zzS] at cM); have fM := frees_of kM; have cR := cells_of kR; (try simp only [matchC, zzT, zzO, zzS] at cR); have fR := frees_of kR
    go_upto_if 32 with fail
    go_simp
    go_cut [7] (fun zv w' => w'.heap[bM]? = some (.cells #[.int .i64 F, .int .i64 O, .int .i64 0, .int .i64 0, .int .i64 0, .int .i64 0, .int .i64 0, .int .i64 0, .int .i64 0, .int .i64 0, .int .i64 0, .int .i64 0, .int .i64 0, .int .i64 0, .int .i64 0, .int .i64 0, .int .i64 0, .int .i64 0, .int .i64 0, .int .i64 0, .int .i64 0, .int .i64 0] 24 (0, 0)) ∧ w'.heap[bR]? = some (.cells #[.int .i64 0, .int .i64 0, .int .i64 0, .int .i64 0, .int .i64 0, .int .i64 0, .int .i64 0, .int .i64 0, .int .i64 0, .int .i64 0, .int .i64 0, .int .i64 0, .int .i64 0, .int .i64 0, .int .i64 0, .int .i64 0, .int .i64 0, .int .i64 0, .int .i64 0, .int .i64 0, .int .i64 0, .int .i64 0] 24 (0, 0)) ∧ Upd (fun k => w.heap.size ≤ k) w w')
    case first =>
      rcases (show y = -1 ∨ 0 ≤ y by omega) with rfl | hyp
      · have e := HO.out
        rw [if_pos (by decide)] at e
        subst e
        go_wp2_with (first
          | ((with_reducible refine stopSt 3 _ _ rfl ?_); unfold Stop; refine wpList_store_blk rfl 3 _ _ rfl _ _ rfl _ (by go_simp; first | done | exact rfl) _ _ _ kM (zzB rfl) (by kernel_rfl) rfl (by simp only [spl, matchC, Value.cells, zzT, zzO, zzS, Array.toList]; exact rfl) ?_; intro wn kn hUn hsn; clear cM fM cR fR; replace kR := hUn.heap kR (by omega); replace kM := kn; replace hU0 := hU0.then hUn (fun i hi (e : i = _) => by first | exact e | exact absurd hi (by omega) | (subst e; first | assumption | (show _ ≤ _; omega)) | exact .inl e | exact .inr e | exact .inr (.inl e) | exact .inr (.inr e)); replace hz := Nat.le_trans hz (Nat.le_of_eq hsn.symm); replace c21 := hUn.cell c21 (show ¬ bT = bM by omega); clear kn hUn hsn; have cM := cells_of kM; (try simp only [matchC, zzT, zzO, zzS] at cM); have fM := frees_of kM; have cR := cells_of kR; (try simp only [matchC, zzT, zzO, zzS] at cR); have fR := frees_of kR))
        go_meet
        exact ⟨kM, kR, hU0⟩
      · have e := HO.out
        rw [if_neg (by omega)] at e
        subst e
        have h9 : (y != -1) = true := by simp; omega
        go_wp2_with (first
          | ((with_reducible refine stopSt 3 _ _ rfl ?_); unfold Stop; refine wpList_store_blk rfl 3 _ _ rfl _ _ rfl _ (by go_simp; first | done | exact rfl) _ _ _ kM (zzB rfl) (by kernel_rfl) rfl (by simp only [spl, matchC, Value.cells, zzT, zzO, zzS, Array.toList]; exact rfl) ?_; intro wn kn hUn hsn; clear cM fM cR fR; replace kR := hUn.heap kR (by omega); replace kM := kn; replace hU0 := hU0.then hUn (fun i hi (e : i = _) => by first | exact e | exact absurd hi (by omega) | (subst e; first | assumption | (show _ ≤ _; omega)) | exact .inl e | exact .inr e | exact .inr (.inl e) | exact .inr (.inr e)); replace hz := Nat.le_trans hz (Nat.le_of_eq hsn.symm); replace c21 := hUn.cell c21 (show ¬ bT = bM by omega); clear kn hUn hsn; have cM := cells_of kM; (try simp only [matchC, zzT, zzO, zzS] at cM); have fM := frees_of kM; have cR := cells_of kR; (try simp only [matchC, zzT, zzO, zzS] at cR); have fR := frees_of kR))
        go_meet
        exact ⟨kM, kR, hU0⟩
    case rest =>
      clear kR kM hU0 hz c21 cM fM cR fR
      obtain ⟨kM, kR, hU0⟩ := hcut
      obtain ⟨wn, rfl⟩ : ∃ wn, wn = wc := ⟨_, rfl⟩
      have hz := hU0.size
      have cM := cells_of kM; (try simp only [matchC, zzT, zzO, zzS] at cM); have fM := frees_of kM; have cR := cells_of kR; (try simp only [matchC, zzT, zzO, zzS] at cR); have fR := frees_of kR
      go_upto_region 10 with (first
        | ((with_reducible refine stopSt 3 _ _ rfl ?_); unfold Stop; refine wpList_store_blk rfl 3 _ _ rfl _ _ rfl _ (by go_simp; first | done | exact rfl) _ _ _ kM (zzB rfl) (by kernel_rfl) rfl (by simp only [spl, matchC, Value.cells, zzT, zzO, zzS, Array.toList]; exact rfl) ?_; intro wn kn hUn hsn; clear cM fM cR fR; replace kR := hUn.heap kR (by omega); replace kM := kn; replace hU0 := hU0.then hUn (fun i hi (e : i = _) => by first | exact e | exact absurd hi (by omega) | (subst e; first | assumption | (show _ ≤ _; omega)) | exact .inl e | exact .inr e | exact .inr (.inl e) | exact .inr (.inr e)); replace hz := Nat.le_trans hz (Nat.le_of_eq hsn.symm); clear kn hUn hsn; have cM := cells_of kM; (try simp only [matchC, zzT, zzO, zzS] at cM); have fM := frees_of kM; have cR := cells_of kR; (try simp only [matchC, zzT, zzO, zzS] at cR); have fR := frees_of kR))
      have kM : wn.heap[bM]? = some (.cells (matchC (partM t a 0)) 24 (0, 0)) := by rw [HM0.out]; exact kM
      clear cM fM cR fR HM0 HF HO
      go_wp2_with fail
      go_loopg [8] 9 (fun gk iv wr => ∃ k : Nat, iv = .int .i64 ((k + 1 : Nat) : Int) ∧ k + gk = 9 ∧ wr.heap[bM]? = some (.cells (matchC (partM t a k)) 24 (0, 0)) ∧ wr.heap[bR]? = some (.cells #[.int .i64 0, .int .i64 0, .int .i64 0, .int .i64 0, .int .i64 0, .int .i64 0, .int .i64 0, .int .i64 0, .int .i64 0, .int .i64 0, .int .i64 0, .int .i64 0, .int .i64 0, .int .i64 0, .int .i64 0, .int .i64 0, .int .i64 0, .int .i64 0, .int .i64 0, .int .i64 0, .int .i64 0, .int .i64 0] 24 (0, 0)) ∧ Upd (fun k => w.heap.size ≤ k) w wr)
      case atStart => exact ⟨0, rfl, rfl, kM, kR, hU0⟩
      case round =>
        clear kM kR hU0 hz
        obtain ⟨k, rfl, hk, kM, kR, hU0⟩ := hrel
        have HRN := Lib.hid (And.intro kR gRM)
        clear kR
        by_cases hlt : k < 9
        · have gi : ((k + 1 : Nat) : Int) ≤ 9 := by omega
          obtain ⟨A, hA⟩ : ∃ A, t.slots.getD (2 * (k + 1)) 0 = A := ⟨_, rfl⟩
          obtain ⟨C, hC⟩ : ∃ C, t.slots.getD (2 * (k + 1) + 1) 0 = C := ⟨_, rfl⟩
          have HSP := Lib.hid (good_split t (k + 1) (HT.out.slot (2 * (k + 1))).1)
          have HCA : Hid (∀ w', Upd (fun k => w.heap.size ≤ k) w w' → w'.cell? ⟨bT, 2 + 2 * (k + 1), none⟩ = some (.int .i64 A) ∧ w'.cell? ⟨bT, 2 + (2 * (k + 1) + 1), none⟩ = some (.int .i64 C)) := Lib.hid (fun w' hu => by
            have h := hu.heap HK.out (show ¬ w.heap.size ≤ bT by omega)
            rw [← hA, ← hC]
            exact ⟨slot_cell (2 * (k + 1)) (by omega) HT.out h, slot_cell (2 * (k + 1) + 1) (by omega) HT.out h⟩)
          rw [hA, hC] at HSP
          have HTK : Hid (goodG t (k + 1) = true → ({ partM t a k with beg := (partM t a k).beg.set (k + 1) A, end_ := (partM t a k).end_.set (k + 1) C } : MatchD) = partM t a (k + 1)) := Lib.hid (fun h => by rw [← hA, ← hC]; exact partM_take t a k h)
          have HSK := Lib.hid (partM_skip t a k)
          clear hA hC
          obtain ⟨P, hP⟩ : ∃ P, partM t a k = P := ⟨_, rfl⟩
          have HBL : Hid (P.beg.length = 10) := Lib.hid (by rw [← hP]; exact partM_blen t a k)
          have HEL : Hid (P.end_.length = 10) := Lib.hid (by rw [← hP]; exact partM_elen t a k)
          rw [hP] at kM HTK HSK
          clear hP
          have HSZ : Hid (∀ (b e : List Int), b.length = 10 → e.length = 10 → (matchC { P with beg := b, end_ := e }).size = 22) := Lib.hid (fun b e h1 h2 => match_size _ h1 h2)
          go_upto_region 14 with (first
            | ((with_reducible refine stopSt 3 _ _ rfl ?_); unfold Stop; refine wpList_store_blk rfl 3 _ _ rfl bM (2 + (k + 1)) rfl (.int .i64 (-1)) rfl (matchC P) (matchC { P with beg := P.beg.set (k + 1) (-1) }) _ kM (by rw [show matchC P = matchC { P with beg := P.beg, end_ := P.end_ } from rfl, HSZ.out _ _ HBL.out HEL.out]; exact (by omega : 2 + (k + 1) + 1 ≤ 22)) (by kernel_rfl) rfl (match_set_beg P (k + 1) (-1) (by rw [HBL.out]; omega)) ?_; intro w1 k1 hu1 hs1)
            | ((with_reducible refine stopSt 3 _ _ rfl ?_); unfold Stop; refine wpList_store_blk rfl 3 _ _ rfl bM (12 + (k + 1)) rfl (.int .i64 (-1)) rfl (matchC { P with beg := P.beg.set (k + 1) (-1) }) (matchC { P with beg := P.beg.set (k + 1) (-1), end_ := P.end_.set (k + 1) (-1) }) _ k1 (by rw [show matchC { P with beg := P.beg.set (k + 1) (-1) } = matchC { P with beg := P.beg.set (k + 1) (-1), end_ := P.end_ } from rfl, HSZ.out _ _ (by simpa using HBL.out) HEL.out]; exact (by omega : 12 + (k + 1) + 1 ≤ 22)) (by kernel_rfl) rfl (match_set_end { P with beg := P.beg.set (k + 1) (-1) } (k + 1) (-1) (by simpa using HBL.out)) ?_; intro w2 k2 hu2 hs2))
          have HU2 := Lib.hid ((hU0.then hu1 (fun i hi (e : i = bM) => by omega)).then hu2 (fun i hi (e : i = bM) => by omega))
          have HUM := Lib.hid (hu1.then hu2 (fun _ _ h => h))
          clear hu1 hu2 hs1 hs2 k1 kM
          obtain ⟨wd, hwd⟩ : ∃ wd, w2.drew = wd := ⟨_, rfl⟩
          have HUd : Hid (Upd (fun k => w.heap.size ≤ k) w wd) := Lib.hid (by rw [← hwd]; exact HU2.out.drew)
          have k3 : wd.heap[bM]? = some (.cells (matchC { P with beg := P.beg.set (k + 1) (-1), end_ := P.end_.set (k + 1) (-1) }) 24 (0, 0)) := by rw [← hwd]; exact k2
          have HUW : Hid (Upd (fun k => k = bM) wr wd) := Lib.hid (by rw [← hwd]; exact HUM.out.drew)
          obtain ⟨dA, dC⟩ := HCA.out wd HUd.out
          rw [show 2 * (k + 1) + 1 = (2 * ((k : Int) + 1) + 1).toNat by omega] at dC
          rw [show 2 * (k + 1) = (2 * ((k : Int) + 1)).toNat by omega] at dA
          have hs1 : IntKind.i64.wrap (2 * ((k : Int) + 1)) = 2 * ((k : Int) + 1) := by unfold IntKind.wrap; simp [IntKind.signed, IntKind.bits]; omega
          have hs2 : IntKind.i64.wrap (2 * ((k : Int) + 1) + 1) = 2 * ((k : Int) + 1) + 1 := by unfold IntKind.wrap; simp [IntKind.signed, IntKind.bits]; omega
          refine wp_region_seq (fun v => v = wd) (fun i => i != 99) [(0, true), (1, true), (2, true), (3, true), (4, true), (5, true), (6, true), (7, true), (8, true), (9, true), (10, true), (11, true), (12, true), (13, true), (14, true), (15, true), (16, true)] (by exact rfl) (by kernel_rfl) (by intro c a d v w h; cases d <;> exact h) ?_
          rw [hwd]; have hS : wd = wd := rfl
          iterate 17 (((apply seq_val2 rfl (by rfl); (focus (intro w' hS'; subst hS'; go_simp; (first | done | exact rfl | (rw [if_pos (by omega)]; done)))); (focus exact hS))); (try simp only [Act.put, zzT, zzO, zzS]))
          refine seq_nil ?_
          clear HCA dA dC
          rcases HSP.out with ⟨hg, h1, h2⟩ | ⟨hg, h1⟩ | ⟨hg, h1, h2⟩
          · have g1 : (A != -1) = true := by simp; omega
            have g2 : A ≤ C := h2
            go_wp2_with (first
              | ((with_reducible refine stopSt 3 _ _ rfl ?_); unfold Stop; refine wpList_store_blk rfl 3 _ _ rfl bM (2 + (k + 1)) rfl (.int .i64 A) rfl _ (matchC { P with beg := P.beg.set (k + 1) A, end_ := P.end_.set (k + 1) (-1) }) _ k3 (by rw [HSZ.out _ _ (by simpa using HBL.out) (by simpa using HEL.out)]; exact (by omega : 2 + (k + 1) + 1 ≤ 22)) (by kernel_rfl) rfl ((match_set_beg _ (k + 1) A (by simp [HBL.out]; omega)).trans (by simp [List.set_set])) ?_; intro w4 k4 hu4 hs4)
              | ((with_reducible refine stopSt 3 _ _ rfl ?_); unfold Stop; refine wpList_store_blk rfl 3 _ _ rfl bM (12 + (k + 1)) rfl (.int .i64 C) rfl _ (matchC { P with beg := P.beg.set (k + 1) A, end_ := P.end_.set (k + 1) C }) _ k4 (by rw [HSZ.out _ _ (by simpa using HBL.out) (by simpa using HEL.out)]; exact (by omega : 12 + (k + 1) + 1 ≤ 22)) (by kernel_rfl) rfl ((match_set_end _ (k + 1) C (by simpa using HBL.out)).trans (by simp [List.set_set])) ?_; intro w5 k5 hu5 hs5))
            go_roundg (gk - 1)
            case measure => omega
            case rel => exact ⟨k + 1, by go_num, by omega, by rw [HTK.out hg] at k5; exact k5, (HUW.out.then (hu4.then hu5 (fun _ _ h => h)) (fun _ _ h => h)).heap HRN.out.1 (show ¬ bR = bM by have := HRN.out.2; omega), HUd.out.then (hu4.then hu5 (fun _ _ h => h)) (fun i hi (e : i = bM) => by omega)⟩
          · have g1 : (A != -1) = false := by simp [h1]
            go_wp2_with fail
            go_roundg (gk - 1)
            case measure => omega
            case rel => exact ⟨k + 1, by go_num, by omega, by rw [HSK.out hg] at k3; exact k3, HUW.out.heap HRN.out.1 (show ¬ bR = bM by have := HRN.out.2; omega), HUd.out⟩
          · have g1 : (A != -1) = true := by simp; omega
            have g2 : ¬ A ≤ C := by omega
            go_wp2_with fail
            go_roundg (gk - 1)
            case measure => omega
            case rel => exact ⟨k + 1, by go_num, by omega, by rw [HSK.out hg] at k3; exact k3, HUW.out.heap HRN.out.1 (show ¬ bR = bM by have := HRN.out.2; omega), HUd.out⟩
        · have gi : ¬ ((k + 1 : Nat) : Int) ≤ 9 := by omega
          have hk9 : k = 9 := by omega
          subst hk9
          have HN := Lib.hid (partM_nine t a)
          rw [HN.out] at kM
          have HSZ : Hid ((matchC (matchF t a)).size = 22) := Lib.hid (by rw [← HN.out]; exact match_size _ (partM_blen t a 9) (partM_elen t a 9))
          obtain ⟨kR, gRM⟩ := HRN.out
          have HX : Hid (Try.prog.info? 24 = Try.prog.info? 24) := Lib.hid rfl
          obtain ⟨D, hD⟩ : ∃ D, matchC (matchF t a) = D := ⟨_, rfl⟩
          have HONE : Hid (D.toList.all (·.oneCell') = true) := Lib.hid (by rw [← hD]; exact match_one _)
          rw [hD] at kM HSZ
          have HD := Lib.hid hD
          clear hD
          have HINF : Hid ((Try.prog.info? 24).map (·.size) = some D.size) := Lib.hid (by rw [HSZ.out]; kernel_rfl)
          have HSPL : Hid (spl #[.int .i64 0, .int .i64 0, .int .i64 0, .int .i64 0, .int .i64 0, .int .i64 0, .int .i64 0, .int .i64 0, .int .i64 0, .int .i64 0, .int .i64 0, .int .i64 0, .int .i64 0, .int .i64 0, .int .i64 0, .int .i64 0, .int .i64 0, .int .i64 0, .int .i64 0, .int .i64 0, .int .i64 0, .int .i64 0] 0 D.toList = D) := Lib.hid (spl_all _ _ (by rw [Array.length_toList, HSZ.out]; rfl))
          have HLE : Hid (0 + D.size ≤ (#[.int .i64 0, .int .i64 0, .int .i64 0, .int .i64 0, .int .i64 0, .int .i64 0, .int .i64 0, .int .i64 0, .int .i64 0, .int .i64 0, .int .i64 0, .int .i64 0, .int .i64 0, .int .i64 0, .int .i64 0, .int .i64 0, .int .i64 0, .int .i64 0, .int .i64 0, .int .i64 0, .int .i64 0, .int .i64 0] : Array Value).size) := Lib.hid (by rw [HSZ.out]; decide)
          go_wp2_with (first
            | ((with_reducible refine stopLd 24 _ rfl ?_); unfold Stop; refine wpList_load_row rfl 24 _ rfl _ rfl 24 _ (0, 0) _ kM Try.underlying24 rfl HINF.out ?_)
            | ((with_reducible refine stopSt 24 _ _ rfl ?_); unfold Stop; refine wpList_store_blk rfl 24 _ _ rfl bR 0 rfl (.agg D) rfl _ D _ kR HLE.out HINF.out HONE.out HSPL.out ?_; intro w9 k9 hu9 hs9))
          exact bodyPost_ret (v := .agg _) (results_blk1 Try.results26 _ _ bR 24 _ (0, 0) _ rfl k9 Try.underlying24 rfl HINF.out) rfl ⟨by rw [HD.out], (hU0.then hu9 (fun i hi (e : i = bR) => by omega)).old⟩
end Go.Proofs.Ytigbfgmgdfnhcaa
