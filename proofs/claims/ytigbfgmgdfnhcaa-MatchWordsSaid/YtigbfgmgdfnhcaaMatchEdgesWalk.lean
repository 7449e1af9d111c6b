/- The walk of the law MatchEdges. (Printed by tools/edgegen.py.) -/
import Derived.Test.YtigbfgmgdfnhcaaMatchEdgesPlain
import Derived.Test.YtigbfgmgdfnhcaaBaseA0
set_option linter.all false
set_option linter.unusedVariables false
set_option linter.unusedSimpArgs false
namespace Go.Proofs.Ytigbfgmgdfnhcaa
open Go.RowKit

theorem at_look2 {o : Int} (h1 : 8 ≤ o) (h2 : o ≤ 11) (l : List UInt8) (k st : Nat) (hk : k ≤ l.length) (hs2 : 2 ≤ st) (hs : st ≤ 5000) : ∃ m lf, atF (qLook o) l k st = some ⟨m, lf, looksF l k o, 0⟩ := by
  rw [at_look h1 h2 l k st hk hs2 hs]
  cases h : looksF l k o
  · exact ⟨_, _, rfl⟩
  · exact ⟨_, _, rfl⟩
set_option maxRecDepth 100000 in
set_option maxHeartbeats 8000000 in
theorem edges_law (l : ByteArray) (hl : l.size ≤ maxLen) (a : Int) (a1 : -9223372036854775808 ≤ a) (a2 : a ≤ 9223372036854775807) (W : World) :
    Calls Try.prog 7 #[.string l, .int .i64 a] W fun e w' => e = .returned (.bool true) ∧ Below W.heap.size W w' := by
  have HFIN : Hid (∀ w', Upd (fun _ => False) W w' → Below W.heap.size W w') := Lib.hid (fun w' h => h.below (Nat.le_refl _) (fun _ _ h => h))
  have HUB := Lib.hid (Upd.refl (fun _ => False) W)
  obtain ⟨w, rfl⟩ : ∃ w, w = W := ⟨_, rfl⟩
  have hU0 := Upd.refl (fun k => w.heap.size ≤ k) w
  have hz := Nat.le_refl w.heap.size
  clear hl
  go_enter Try.func7, Try.ntmps7
  by_cases h2 : 200 < l.size
  · have g2 : (200 : Int) < (l.size : Int) := by omega
    go_wp2_with (first
      | (go_at_call 17; refine known_any.mono ?_; rintro e w9 ⟨rfl, hq9⟩; replace hz := Nat.le_trans hz (hq9).size; replace hU0 := hU0.then hq9 (fun _ _ h => h.elim); clear hq9))
    go_ret
    exact ⟨rfl, HFIN.out _ (HUB.out.then hU0.old (fun _ _ h => h))⟩
  · have g2 : ¬ (200 : Int) < (l.size : Int) := by omega
    have hl0 : l.size ≤ 140737488351232 := by omega
    obtain ⟨k, hk⟩ : ∃ k : Nat, max a 0 % ((l.size : Int) + 1) = (k : Int) := ⟨(max a 0 % ((l.size : Int) + 1)).toNat, by have := Int.emod_nonneg (max a 0) (show ((l.size : Int) + 1) ≠ 0 by omega); omega⟩
    have hkl : k ≤ l.size := by have := Int.emod_lt_of_pos (max a 0) (show (0 : Int) < (l.size : Int) + 1 by omega); omega
    have hsz : l.data.toList.length = l.size := by simp
    obtain ⟨m1, l1, hr1⟩ : ∃ m lf, atF (qLook 8) l.data.toList k 50 = some ⟨m, lf, ((k : Int) == 0), 0⟩ := by
      obtain ⟨m, lf, h⟩ := at_look2 (o := 8) (by decide) (by decide) l.data.toList k 50 (by omega) (by decide) (by decide)
      refine ⟨m, lf, h.trans ?_⟩
      have : looksF l.data.toList k 8 = ((k : Int) == 0) := Bool.eq_iff_iff.mpr (by show (k == 0) = true ↔ _; simp only [beq_iff_eq]; omega)
      rw [this]
    obtain ⟨m2, l2, hr2⟩ : ∃ m lf, atF (qLook 9) l.data.toList k 50 = some ⟨m, lf, ((k : Int) == (l.size : Int)), 0⟩ := by
      obtain ⟨m, lf, h⟩ := at_look2 (o := 9) (by decide) (by decide) l.data.toList k 50 (by omega) (by decide) (by decide)
      refine ⟨m, lf, h.trans ?_⟩
      have : looksF l.data.toList k 9 = ((k : Int) == (l.size : Int)) := by rw [looks_eol, hsz]; exact Bool.eq_iff_iff.mpr (by simp only [beq_iff_eq]; omega)
      rw [this]
    obtain ⟨l3, hr3⟩ := from_eol l.data.toList (l.size + 2) k 5000 (by omega) (by omega) (by omega) (by decide)
    obtain ⟨D1, hD1⟩ : ∃ D, matchC m1 = D := ⟨_, rfl⟩
    obtain ⟨D2, hD2⟩ : ∃ D, matchC m2 = D := ⟨_, rfl⟩
    obtain ⟨D3, hD3⟩ : ∃ D, matchC (lookM l.data.toList.length) = D := ⟨_, rfl⟩
    have MD1 : Hid (MD D1) := Lib.hid (by rw [← hD1]; exact md_of (atF_len hr1))
    have MD2 : Hid (MD D2) := Lib.hid (by rw [← hD2]; exact md_of (atF_len hr2))
    have MD3 : Hid (MD D3) := Lib.hid (by rw [← hD3]; exact md_of (lookM_len _))
    have HF : Hid (D3[0]? = some (.int .i64 (l.size : Int)) ∧ D3[1]? = some (.int .i64 (l.size : Int))) := Lib.hid (by
      have h := lookM_ends l.data.toList.length
      rw [← hD3]
      have e0 := match_from (lookM l.data.toList.length)
      have e1 := match_to (lookM l.data.toList.length)
      rw [h.1, hsz] at e0
      rw [h.2, hsz] at e1
      rw [hsz]
      exact ⟨e0, e1⟩)
    have HD1 := Lib.hid hD1
    have HD2 := Lib.hid hD2
    have HD3 := Lib.hid hD3
    have HR1 := Lib.hid hr1
    have HR2 := Lib.hid hr2
    have HR3 := Lib.hid hr3
    clear hr1 hr2 hr3 hD1 hD2 hD3 hsz
    go_upto_region 4 with (first
      | (go_at_call 17; refine known_any.mono ?_; rintro e w9 ⟨rfl, hq9⟩; replace hz := Nat.le_trans hz (hq9).size; replace hU0 := hU0.then hq9 (fun _ _ h => h.elim); clear hq9))
    rw [hk]
    clear hk
    go_upto_region 5 with (first
    | (go_at_call 15; refine (compiled_any ⟨#[94]⟩ false (qLook 8) (zzB rfl) comp_bol).mono ?_; rintro e w9 ⟨cvP, rfl, hcdP, huP⟩; obtain ⟨caP, ccP, rfl⟩ := hcdP.form; unfold progC; replace hz := Nat.le_trans hz (huP).size; replace hU0 := hU0.then huP (fun _ _ h => h.elim); replace HUB := Lib.hid (HUB.out.then hU0.old (fun _ _ h => h)); have HCP := Lib.hid hcdP.rows; clear hU0 hz hcdP huP; obtain ⟨w, rfl⟩ : ∃ x, x = w9 := ⟨_, rfl⟩; have hU0 := Upd.refl (fun k => w.heap.size ≤ k) w; have hz := Nat.le_refl w.heap.size)
    | (go_at_call 14; refine (at_any (qLook 8) caP ccP l k 50 (HCP.out.newer hU0) hl0 _ HR1.out).mono ?_; rintro e w9 ⟨rfl, hq9⟩; unfold resV; rw [HD1.out]; replace hz := Nat.le_trans hz (hq9).size; replace hU0 := hU0.then hq9 (fun _ _ h => h.elim); clear hq9)
    | ((with_reducible refine stopAl 24 rfl ?_); unfold Stop; refine wpList_alloc_blk rfl 24 rfl (.agg #[.int .i64 0, .int .i64 0, .int .i64 0, .int .i64 0, .int .i64 0, .int .i64 0, .int .i64 0, .int .i64 0, .int .i64 0, .int .i64 0, .int .i64 0, .int .i64 0, .int .i64 0, .int .i64 0, .int .i64 0, .int .i64 0, .int .i64 0, .int .i64 0, .int .i64 0, .int .i64 0, .int .i64 0, .int .i64 0]) (by kernel_rfl) #[.int .i64 0, .int .i64 0, .int .i64 0, .int .i64 0, .int .i64 0, .int .i64 0, .int .i64 0, .int .i64 0, .int .i64 0, .int .i64 0, .int .i64 0, .int .i64 0, .int .i64 0, .int .i64 0, .int .i64 0, .int .i64 0, .int .i64 0, .int .i64 0, .int .i64 0, .int .i64 0, .int .i64 0, .int .i64 0] rfl ?_; intro bX wn hbn kn hUn hsn; have gX : w.heap.size ≤ bX := Nat.le_trans hU0.size (Nat.le_of_eq hbn); have kX := kn; replace hU0 := hU0.then hUn (fun _ _ h => h.elim); replace hz : w.heap.size ≤ wn.heap.size := (by omega); clear kn hUn hsn hbn; have cX := cells_of kX; (try simp only [progC, zzT, zzO, zzS] at cX); have fX := frees_of kX)
    | ((with_reducible refine stopSt 24 _ _ rfl ?_); unfold Stop; refine wpList_store_blk rfl 24 _ _ rfl bX 0 rfl (.agg D1) rfl #[.int .i64 0, .int .i64 0, .int .i64 0, .int .i64 0, .int .i64 0, .int .i64 0, .int .i64 0, .int .i64 0, .int .i64 0, .int .i64 0, .int .i64 0, .int .i64 0, .int .i64 0, .int .i64 0, .int .i64 0, .int .i64 0, .int .i64 0, .int .i64 0, .int .i64 0, .int .i64 0, .int .i64 0, .int .i64 0] D1 _ kX MD1.out.le MD1.out.info MD1.out.ones MD1.out.spl ?_; intro w8 k8 hu8 hs8; clear cX fX; replace hz := Nat.le_trans hz (hu8).size; replace hU0 := hU0.then hu8 (fun i hi (e : i = bX) => by omega); have kXv := k8; clear k8 kX hu8 hs8; have cXv := cells_of kXv; (try simp only [progC, zzT, zzO, zzS] at cXv); have fXv := frees_of kXv))
    go_upto_region 6 with (first
    | (go_at_call 15; refine (compiled_any ⟨#[36]⟩ false (qLook 9) (zzB rfl) comp_eol).mono ?_; rintro e w9 ⟨cvQ, rfl, hcdQ, huQ⟩; obtain ⟨caQ, ccQ, rfl⟩ := hcdQ.form; unfold progC; clear cXv fXv; replace kXv := (huQ).heap kXv (fun h => h); replace hz := Nat.le_trans hz (huQ).size; replace hU0 := hU0.then huQ (fun _ _ h => h.elim); have cXv := cells_of kXv; (try simp only [progC, zzT, zzO, zzS] at cXv); have fXv := frees_of kXv; replace HUB := Lib.hid (HUB.out.then hU0.old (fun _ _ h => h)); have HCQ := Lib.hid hcdQ.rows; clear hU0 hz hcdQ huQ; obtain ⟨w, rfl⟩ : ∃ x, x = w9 := ⟨_, rfl⟩; have hU0 := Upd.refl (fun k => w.heap.size ≤ k) w; have hz := Nat.le_refl w.heap.size)
    | (go_at_call 14; refine (at_any (qLook 9) caQ ccQ l k 50 (HCQ.out.newer hU0) hl0 _ HR2.out).mono ?_; rintro e w9 ⟨rfl, hq9⟩; unfold resV; rw [HD2.out]; clear cXv fXv; replace kXv := (hq9).heap kXv (fun h => h); replace hz := Nat.le_trans hz (hq9).size; replace hU0 := hU0.then hq9 (fun _ _ h => h.elim); have cXv := cells_of kXv; (try simp only [progC, zzT, zzO, zzS] at cXv); have fXv := frees_of kXv; clear hq9)
    | ((with_reducible refine stopAl 24 rfl ?_); unfold Stop; refine wpList_alloc_blk rfl 24 rfl (.agg #[.int .i64 0, .int .i64 0, .int .i64 0, .int .i64 0, .int .i64 0, .int .i64 0, .int .i64 0, .int .i64 0, .int .i64 0, .int .i64 0, .int .i64 0, .int .i64 0, .int .i64 0, .int .i64 0, .int .i64 0, .int .i64 0, .int .i64 0, .int .i64 0, .int .i64 0, .int .i64 0, .int .i64 0, .int .i64 0]) (by kernel_rfl) #[.int .i64 0, .int .i64 0, .int .i64 0, .int .i64 0, .int .i64 0, .int .i64 0, .int .i64 0, .int .i64 0, .int .i64 0, .int .i64 0, .int .i64 0, .int .i64 0, .int .i64 0, .int .i64 0, .int .i64 0, .int .i64 0, .int .i64 0, .int .i64 0, .int .i64 0, .int .i64 0, .int .i64 0, .int .i64 0] rfl ?_; intro bY wn hbn kn hUn hsn; clear cXv fXv; have lXvY := heap_lt kXv; rw [hbn] at lXvY; replace kXv := hUn.heap kXv (fun h => h); have gY : w.heap.size ≤ bY := Nat.le_trans hU0.size (Nat.le_of_eq hbn); have kY := kn; replace hU0 := hU0.then hUn (fun _ _ h => h.elim); replace hz : w.heap.size ≤ wn.heap.size := (by omega); clear kn hUn hsn hbn; have cY := cells_of kY; (try simp only [progC, zzT, zzO, zzS] at cY); have fY := frees_of kY; have cXv := cells_of kXv; (try simp only [progC, zzT, zzO, zzS] at cXv); have fXv := frees_of kXv)
    | ((with_reducible refine stopSt 24 _ _ rfl ?_); unfold Stop; refine wpList_store_blk rfl 24 _ _ rfl bY 0 rfl (.agg D2) rfl #[.int .i64 0, .int .i64 0, .int .i64 0, .int .i64 0, .int .i64 0, .int .i64 0, .int .i64 0, .int .i64 0, .int .i64 0, .int .i64 0, .int .i64 0, .int .i64 0, .int .i64 0, .int .i64 0, .int .i64 0, .int .i64 0, .int .i64 0, .int .i64 0, .int .i64 0, .int .i64 0, .int .i64 0, .int .i64 0] D2 _ kY MD2.out.le MD2.out.info MD2.out.ones MD2.out.spl ?_; intro w8 k8 hu8 hs8; clear cY fY; clear cXv fXv; replace kXv := (hu8).heap kXv ((by omega)); replace hz := Nat.le_trans hz (hu8).size; replace hU0 := hU0.then hu8 (fun i hi (e : i = bY) => by omega); have cXv := cells_of kXv; (try simp only [progC, zzT, zzO, zzS] at cXv); have fXv := frees_of kXv; have kYv := k8; clear k8 kY hu8 hs8; have cYv := cells_of kYv; (try simp only [progC, zzT, zzO, zzS] at cYv); have fYv := frees_of kYv))
    go_upto_region 7 with (first
    | (go_at_call 15; refine (compiled_any ⟨#[36]⟩ false (qLook 9) (zzB rfl) comp_eol).mono ?_; rintro e w9 ⟨cvO, rfl, hcdO, huO⟩; obtain ⟨caO, ccO, rfl⟩ := hcdO.form; unfold progC; clear cXv fXv cYv fYv; replace kXv := (huO).heap kXv (fun h => h); replace kYv := (huO).heap kYv (fun h => h); replace hz := Nat.le_trans hz (huO).size; replace hU0 := hU0.then huO (fun _ _ h => h.elim); have cXv := cells_of kXv; (try simp only [progC, zzT, zzO, zzS] at cXv); have fXv := frees_of kXv; have cYv := cells_of kYv; (try simp only [progC, zzT, zzO, zzS] at cYv); have fYv := frees_of kYv; replace HUB := Lib.hid (HUB.out.then hU0.old (fun _ _ h => h)); have HCO := Lib.hid hcdO.rows; clear hU0 hz hcdO huO; obtain ⟨w, rfl⟩ : ∃ x, x = w9 := ⟨_, rfl⟩; have hU0 := Upd.refl (fun k => w.heap.size ≤ k) w; have hz := Nat.le_refl w.heap.size)
    | (go_at_call 20; refine (from_any (qLook 9) caO ccO l k 5000 (HCO.out.newer hU0) hl0 _ _ HR3.out).mono ?_; rintro e w9 ⟨rfl, hq9⟩; unfold resV; rw [HD3.out]; clear cXv fXv cYv fYv; replace kXv := (hq9).heap kXv (fun h => h); replace kYv := (hq9).heap kYv (fun h => h); replace hz := Nat.le_trans hz (hq9).size; replace hU0 := hU0.then hq9 (fun _ _ h => h.elim); have cXv := cells_of kXv; (try simp only [progC, zzT, zzO, zzS] at cXv); have fXv := frees_of kXv; have cYv := cells_of kYv; (try simp only [progC, zzT, zzO, zzS] at cYv); have fYv := frees_of kYv; clear hq9)
    | ((with_reducible refine stopAl 24 rfl ?_); unfold Stop; refine wpList_alloc_blk rfl 24 rfl (.agg #[.int .i64 0, .int .i64 0, .int .i64 0, .int .i64 0, .int .i64 0, .int .i64 0, .int .i64 0, .int .i64 0, .int .i64 0, .int .i64 0, .int .i64 0, .int .i64 0, .int .i64 0, .int .i64 0, .int .i64 0, .int .i64 0, .int .i64 0, .int .i64 0, .int .i64 0, .int .i64 0, .int .i64 0, .int .i64 0]) (by kernel_rfl) #[.int .i64 0, .int .i64 0, .int .i64 0, .int .i64 0, .int .i64 0, .int .i64 0, .int .i64 0, .int .i64 0, .int .i64 0, .int .i64 0, .int .i64 0, .int .i64 0, .int .i64 0, .int .i64 0, .int .i64 0, .int .i64 0, .int .i64 0, .int .i64 0, .int .i64 0, .int .i64 0, .int .i64 0, .int .i64 0] rfl ?_; intro bZ wn hbn kn hUn hsn; clear cXv fXv cYv fYv; have lXvZ := heap_lt kXv; rw [hbn] at lXvZ; replace kXv := hUn.heap kXv (fun h => h); have lYvZ := heap_lt kYv; rw [hbn] at lYvZ; replace kYv := hUn.heap kYv (fun h => h); have gZ : w.heap.size ≤ bZ := Nat.le_trans hU0.size (Nat.le_of_eq hbn); have kZ := kn; replace hU0 := hU0.then hUn (fun _ _ h => h.elim); replace hz : w.heap.size ≤ wn.heap.size := (by omega); clear kn hUn hsn hbn; have cZ := cells_of kZ; (try simp only [progC, zzT, zzO, zzS] at cZ); have fZ := frees_of kZ; have cXv := cells_of kXv; (try simp only [progC, zzT, zzO, zzS] at cXv); have fXv := frees_of kXv; have cYv := cells_of kYv; (try simp only [progC, zzT, zzO, zzS] at cYv); have fYv := frees_of kYv)
    | ((with_reducible refine stopSt 24 _ _ rfl ?_); unfold Stop; refine wpList_store_blk rfl 24 _ _ rfl bZ 0 rfl (.agg D3) rfl #[.int .i64 0, .int .i64 0, .int .i64 0, .int .i64 0, .int .i64 0, .int .i64 0, .int .i64 0, .int .i64 0, .int .i64 0, .int .i64 0, .int .i64 0, .int .i64 0, .int .i64 0, .int .i64 0, .int .i64 0, .int .i64 0, .int .i64 0, .int .i64 0, .int .i64 0, .int .i64 0, .int .i64 0, .int .i64 0] D3 _ kZ MD3.out.le MD3.out.info MD3.out.ones MD3.out.spl ?_; intro w8 k8 hu8 hs8; clear cZ fZ; clear cXv fXv cYv fYv; replace kXv := (hu8).heap kXv ((by omega)); replace kYv := (hu8).heap kYv ((by omega)); replace hz := Nat.le_trans hz (hu8).size; replace hU0 := hU0.then hu8 (fun i hi (e : i = bZ) => by omega); have cXv := cells_of kXv; (try simp only [progC, zzT, zzO, zzS] at cXv); have fXv := frees_of kXv; have cYv := cells_of kYv; (try simp only [progC, zzT, zzO, zzS] at cYv); have fYv := frees_of kYv; have kZv := k8; clear k8 kZ hu8 hs8; have cZv := cells_of kZv; (try simp only [progC, zzT, zzO, zzS] at cZv); have fZv := frees_of kZv))
    have d0 := cell_of kZv 0 HF.out.1
    have d1 := cell_of kZv 1 HF.out.2
    clear cXv cYv cZv
    go_wp2_with fail
    go_ret
    exact ⟨rfl, HFIN.out _ (HUB.out.then hU0.old (fun _ _ h => h))⟩
end Go.Proofs.Ytigbfgmgdfnhcaa
