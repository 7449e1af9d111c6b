/- The walk of the law MatchWords. (Printed by tools/edgegen.py.) -/
import Derived.Test.YtigbfgmgdfnhcaaMatchEdgesWalk
import Derived.Test.YtigbfgmgdfnhcaaBaseA0
set_option linter.all false
set_option linter.unusedVariables false
set_option linter.unusedSimpArgs false
namespace Go.Proofs.Ytigbfgmgdfnhcaa
open Go.RowKit

set_option maxRecDepth 100000 in
set_option maxHeartbeats 8000000 in
theorem words_law (l : ByteArray) (hl : l.size ≤ maxLen) (a : Int) (a1 : -9223372036854775808 ≤ a) (a2 : a ≤ 9223372036854775807) (W : World) :
    Calls Try.prog 5 #[.string l, .int .i64 a] W fun e w' => e = .returned (.bool true) ∧ Below W.heap.size W w' := by
  have HFIN : Hid (∀ w', Upd (fun _ => False) W w' → Below W.heap.size W w') := Lib.hid (fun w' h => h.below (Nat.le_refl _) (fun _ _ h => h))
  have HUB := Lib.hid (Upd.refl (fun _ => False) W)
  obtain ⟨w, rfl⟩ : ∃ w, w = W := ⟨_, rfl⟩
  have hU0 := Upd.refl (fun k => w.heap.size ≤ k) w
  have hz := Nat.le_refl w.heap.size
  clear hl
  go_enter Try.func5, Try.ntmps5
  by_cases h2 : 200 < l.size
  · have g2 : (200 : Int) < (l.size : Int) := by omega
    go_wp2_with (first
      | (go_at_call 17; refine known_any.mono ?_; rintro e w9 ⟨rfl, hq9⟩; replace hz := Nat.le_trans hz (hq9).size; replace hU0 := hU0.then hq9 (fun _ _ h => h.elim); clear hq9))
    go_ret
    exact ⟨rfl, HFIN.out _ (HUB.out.then hU0.old (fun _ _ h => h))⟩
  · have g2 : ¬ (200 : Int) < (l.size : Int) := by omega
    have hl0 : l.size ≤ 140737488351232 := by omega
    obtain ⟨k, hk⟩ : ∃ k : Nat, max a 0 % ((l.size : Int) + 1) = (k : Int) := ⟨(max a 0 % ((l.size : Int) + 1)).toNat, by have := Int.emod_nonneg (max a 0) (show ((l.size : Int) + 1) ≠ 0 by omega); omega⟩
    have hkl : k ≤ l.size := by have := Int.emod_lt_of_pos (max a 0) (show (0 : Int) < (l.size : Int) + 1 by omega); omega
    have hsz : l.data.toList.length = l.size := by simp
    obtain ⟨A, hA⟩ : ∃ A, wordAt l.data.toList ((k : Int) - 1) = A := ⟨_, rfl⟩
    obtain ⟨C, hC⟩ : ∃ C, wordAt l.data.toList (k : Int) = C := ⟨_, rfl⟩
    obtain ⟨m1, l1, hr1⟩ : ∃ m lf, atF (qLook 10) l.data.toList k 50 = some ⟨m, lf, (C && !A), 0⟩ := by
      obtain ⟨m, lf, h⟩ := at_look2 (o := 10) (by decide) (by decide) l.data.toList k 50 (by omega) (by decide) (by decide)
      exact ⟨m, lf, h.trans (by rw [← hA, ← hC]; rfl)⟩
    obtain ⟨m2, l2, hr2⟩ : ∃ m lf, atF (qLook 11) l.data.toList k 50 = some ⟨m, lf, (A && !C), 0⟩ := by
      obtain ⟨m, lf, h⟩ := at_look2 (o := 11) (by decide) (by decide) l.data.toList k 50 (by omega) (by decide) (by decide)
      exact ⟨m, lf, h.trans (by rw [← hA, ← hC]; rfl)⟩
    obtain ⟨D1, hD1⟩ : ∃ D, matchC m1 = D := ⟨_, rfl⟩
    obtain ⟨D2, hD2⟩ : ∃ D, matchC m2 = D := ⟨_, rfl⟩
    have MD1 : Hid (MD D1) := Lib.hid (by rw [← hD1]; exact md_of (atF_len hr1))
    have MD2 : Hid (MD D2) := Lib.hid (by rw [← hD2]; exact md_of (atF_len hr2))
    have HD1 := Lib.hid hD1
    have HD2 := Lib.hid hD2
    have HR1 := Lib.hid hr1
    have HR2 := Lib.hid hr2
    have HA : Hid ((k = 0 ∧ A = false) ∨ (0 < k ∧ isB 119 (bl l.data.toList (k - 1)) = A)) := Lib.hid (by
      rw [← hA]
      rcases Nat.eq_zero_or_pos k with h | h
      · left; subst h; exact ⟨rfl, rfl⟩
      · right; refine ⟨h, ?_⟩
        unfold wordAt
        rw [decide_eq_true (by omega), decide_eq_true (by omega), show ((k : Int) - 1).toNat = k - 1 by omega, isB_word]
        simp)
    have HC : Hid ((k = l.size ∧ C = false) ∨ (k < l.size ∧ isB 119 (bl l.data.toList k) = C)) := Lib.hid (by
      rw [← hC]
      rcases Nat.lt_or_ge k l.size with h | h
      · right; refine ⟨h, ?_⟩
        unfold wordAt
        rw [decide_eq_true (by omega), decide_eq_true (by omega), Int.toNat_natCast, isB_word]
        simp
      · left; refine ⟨by omega, ?_⟩
        unfold wordAt
        rw [decide_eq_false (show ¬ (k : Int) < _ by omega), Bool.and_false, Bool.false_and])
    clear hr1 hr2 hD1 hD2 hsz hA hC
    go_upto_region 4 with (first
      | (go_at_call 17; refine known_any.mono ?_; rintro e w9 ⟨rfl, hq9⟩; replace hz := Nat.le_trans hz (hq9).size; replace hU0 := hU0.then hq9 (fun _ _ h => h.elim); clear hq9))
    rw [hk]
    clear hk
    rcases HA.out with ⟨rfl, rfl⟩ | ⟨hk0, hA⟩
    · have HR1 := Lib.hid (show atF (qLook 10) l.data.toList 0 50 = some ⟨m1, l1, (C && !false), 0⟩ from HR1.out)
      have HR2 := Lib.hid (show atF (qLook 11) l.data.toList 0 50 = some ⟨m2, l2, (false && !C), 0⟩ from HR2.out)
      go_upto_region 5 with fail
      rcases HC.out with ⟨hkk, rfl⟩ | ⟨hkk, hC⟩
      · have gk : ¬ ((0 : Nat) : Int) < (l.size : Int) := by omega
        clear hkk
        go_upto_region 6 with (first
          | (go_at_call 18; refine (rIs_any 119 _ (by decide) (by decide) _).mono ?_; rintro e w9 ⟨rfl, rfl⟩))
        go_upto_region 7 with (first
    | (go_at_call 15; refine (compiled_any ⟨#[92, 60]⟩ false (qLook 10) (zzB rfl) comp_bow).mono ?_; rintro e w9 ⟨cvP, rfl, hcdP, huP⟩; obtain ⟨caP, ccP, rfl⟩ := hcdP.form; unfold progC; replace hz := Nat.le_trans hz (huP).size; replace hU0 := hU0.then huP (fun _ _ h => h.elim); replace HUB := Lib.hid (HUB.out.then hU0.old (fun _ _ h => h)); have HCP := Lib.hid hcdP.rows; clear hU0 hz hcdP huP; obtain ⟨w, rfl⟩ : ∃ x, x = w9 := ⟨_, rfl⟩; have hU0 := Upd.refl (fun k => w.heap.size ≤ k) w; have hz := Nat.le_refl w.heap.size)
    | (go_at_call 14; refine (at_any (qLook 10) caP ccP l 0 50 (HCP.out.newer hU0) hl0 _ HR1.out).mono ?_; rintro e w9 ⟨rfl, hq9⟩; unfold resV; rw [HD1.out]; replace hz := Nat.le_trans hz (hq9).size; replace hU0 := hU0.then hq9 (fun _ _ h => h.elim); clear hq9)
    | ((with_reducible refine stopAl 24 rfl ?_); unfold Stop; refine wpList_alloc_blk rfl 24 rfl (.agg #[.int .i64 0, .int .i64 0, .int .i64 0, .int .i64 0, .int .i64 0, .int .i64 0, .int .i64 0, .int .i64 0, .int .i64 0, .int .i64 0, .int .i64 0, .int .i64 0, .int .i64 0, .int .i64 0, .int .i64 0, .int .i64 0, .int .i64 0, .int .i64 0, .int .i64 0, .int .i64 0, .int .i64 0, .int .i64 0]) (by kernel_rfl) #[.int .i64 0, .int .i64 0, .int .i64 0, .int .i64 0, .int .i64 0, .int .i64 0, .int .i64 0, .int .i64 0, .int .i64 0, .int .i64 0, .int .i64 0, .int .i64 0, .int .i64 0, .int .i64 0, .int .i64 0, .int .i64 0, .int .i64 0, .int .i64 0, .int .i64 0, .int .i64 0, .int .i64 0, .int .i64 0] rfl ?_; intro bX wn hbn kn hUn hsn; have gX : w.heap.size ≤ bX := Nat.le_trans hU0.size (Nat.le_of_eq hbn); have kX := kn; replace hU0 := hU0.then hUn (fun _ _ h => h.elim); replace hz : w.heap.size ≤ wn.heap.size := (by omega); clear kn hUn hsn hbn; have cX := cells_of kX; (try simp only [progC, zzT, zzO, zzS] at cX); have fX := frees_of kX)
    | ((with_reducible refine stopSt 24 _ _ rfl ?_); unfold Stop; refine wpList_store_blk rfl 24 _ _ rfl bX 0 rfl (.agg D1) rfl #[.int .i64 0, .int .i64 0, .int .i64 0, .int .i64 0, .int .i64 0, .int .i64 0, .int .i64 0, .int .i64 0, .int .i64 0, .int .i64 0, .int .i64 0, .int .i64 0, .int .i64 0, .int .i64 0, .int .i64 0, .int .i64 0, .int .i64 0, .int .i64 0, .int .i64 0, .int .i64 0, .int .i64 0, .int .i64 0] D1 _ kX MD1.out.le MD1.out.info MD1.out.ones MD1.out.spl ?_; intro w8 k8 hu8 hs8; clear cX fX; replace hz := Nat.le_trans hz (hu8).size; replace hU0 := hU0.then hu8 (fun i hi (e : i = bX) => by omega); have kXv := k8; clear k8 kX hu8 hs8; have cXv := cells_of kXv; (try simp only [progC, zzT, zzO, zzS] at cXv); have fXv := frees_of kXv))
        go_upto_region 8 with (first
    | (go_at_call 15; refine (compiled_any ⟨#[92, 62]⟩ false (qLook 11) (zzB rfl) comp_eow).mono ?_; rintro e w9 ⟨cvQ, rfl, hcdQ, huQ⟩; obtain ⟨caQ, ccQ, rfl⟩ := hcdQ.form; unfold progC; clear cXv fXv; replace kXv := (huQ).heap kXv (fun h => h); replace hz := Nat.le_trans hz (huQ).size; replace hU0 := hU0.then huQ (fun _ _ h => h.elim); have cXv := cells_of kXv; (try simp only [progC, zzT, zzO, zzS] at cXv); have fXv := frees_of kXv; replace HUB := Lib.hid (HUB.out.then hU0.old (fun _ _ h => h)); have HCQ := Lib.hid hcdQ.rows; clear hU0 hz hcdQ huQ; obtain ⟨w, rfl⟩ : ∃ x, x = w9 := ⟨_, rfl⟩; have hU0 := Upd.refl (fun k => w.heap.size ≤ k) w; have hz := Nat.le_refl w.heap.size)
    | (go_at_call 14; refine (at_any (qLook 11) caQ ccQ l 0 50 (HCQ.out.newer hU0) hl0 _ HR2.out).mono ?_; rintro e w9 ⟨rfl, hq9⟩; unfold resV; rw [HD2.out]; clear cXv fXv; replace kXv := (hq9).heap kXv (fun h => h); replace hz := Nat.le_trans hz (hq9).size; replace hU0 := hU0.then hq9 (fun _ _ h => h.elim); have cXv := cells_of kXv; (try simp only [progC, zzT, zzO, zzS] at cXv); have fXv := frees_of kXv; clear hq9)
    | ((with_reducible refine stopAl 24 rfl ?_); unfold Stop; refine wpList_alloc_blk rfl 24 rfl (.agg #[.int .i64 0, .int .i64 0, .int .i64 0, .int .i64 0, .int .i64 0, .int .i64 0, .int .i64 0, .int .i64 0, .int .i64 0, .int .i64 0, .int .i64 0, .int .i64 0, .int .i64 0, .int .i64 0, .int .i64 0, .int .i64 0, .int .i64 0, .int .i64 0, .int .i64 0, .int .i64 0, .int .i64 0, .int .i64 0]) (by kernel_rfl) #[.int .i64 0, .int .i64 0, .int .i64 0, .int .i64 0, .int .i64 0, .int .i64 0, .int .i64 0, .int .i64 0, .int .i64 0, .int .i64 0, .int .i64 0, .int .i64 0, .int .i64 0, .int .i64 0, .int .i64 0, .int .i64 0, .int .i64 0, .int .i64 0, .int .i64 0, .int .i64 0, .int .i64 0, .int .i64 0] rfl ?_; intro bY wn hbn kn hUn hsn; clear cXv fXv; have lXvY := heap_lt kXv; rw [hbn] at lXvY; replace kXv := hUn.heap kXv (fun h => h); have gY : w.heap.size ≤ bY := Nat.le_trans hU0.size (Nat.le_of_eq hbn); have kY := kn; replace hU0 := hU0.then hUn (fun _ _ h => h.elim); replace hz : w.heap.size ≤ wn.heap.size := (by omega); clear kn hUn hsn hbn; have cY := cells_of kY; (try simp only [progC, zzT, zzO, zzS] at cY); have fY := frees_of kY; have cXv := cells_of kXv; (try simp only [progC, zzT, zzO, zzS] at cXv); have fXv := frees_of kXv)
    | ((with_reducible refine stopSt 24 _ _ rfl ?_); unfold Stop; refine wpList_store_blk rfl 24 _ _ rfl bY 0 rfl (.agg D2) rfl #[.int .i64 0, .int .i64 0, .int .i64 0, .int .i64 0, .int .i64 0, .int .i64 0, .int .i64 0, .int .i64 0, .int .i64 0, .int .i64 0, .int .i64 0, .int .i64 0, .int .i64 0, .int .i64 0, .int .i64 0, .int .i64 0, .int .i64 0, .int .i64 0, .int .i64 0, .int .i64 0, .int .i64 0, .int .i64 0] D2 _ kY MD2.out.le MD2.out.info MD2.out.ones MD2.out.spl ?_; intro w8 k8 hu8 hs8; clear cY fY; clear cXv fXv; replace kXv := (hu8).heap kXv ((by omega)); replace hz := Nat.le_trans hz (hu8).size; replace hU0 := hU0.then hu8 (fun i hi (e : i = bY) => by omega); have cXv := cells_of kXv; (try simp only [progC, zzT, zzO, zzS] at cXv); have fXv := frees_of kXv; have kYv := k8; clear k8 kY hu8 hs8; have cYv := cells_of kYv; (try simp only [progC, zzT, zzO, zzS] at cYv); have fYv := frees_of kYv))
        clear cXv cYv
        skip
        all_goals
          go_wp2_with fail
          go_ret
          exact ⟨rfl, HFIN.out _ (HUB.out.then hU0.old (fun _ _ h => h))⟩
      · have gk : ((0 : Nat) : Int) < (l.size : Int) := by omega
        have hC2 : isB 119 ((l[0]'hkk).toNat : Int) = C := by rw [bl_at hkk]; exact hC
        clear hC
        go_upto_region 6 with (first
          | (go_at_call 18; refine (rIs_any 119 _ (by decide) (by decide) _).mono ?_; rintro e w9 ⟨rfl, rfl⟩))
        go_upto_region 7 with (first
    | (go_at_call 15; refine (compiled_any ⟨#[92, 60]⟩ false (qLook 10) (zzB rfl) comp_bow).mono ?_; rintro e w9 ⟨cvP, rfl, hcdP, huP⟩; obtain ⟨caP, ccP, rfl⟩ := hcdP.form; unfold progC; replace hz := Nat.le_trans hz (huP).size; replace hU0 := hU0.then huP (fun _ _ h => h.elim); replace HUB := Lib.hid (HUB.out.then hU0.old (fun _ _ h => h)); have HCP := Lib.hid hcdP.rows; clear hU0 hz hcdP huP; obtain ⟨w, rfl⟩ : ∃ x, x = w9 := ⟨_, rfl⟩; have hU0 := Upd.refl (fun k => w.heap.size ≤ k) w; have hz := Nat.le_refl w.heap.size)
    | (go_at_call 14; refine (at_any (qLook 10) caP ccP l 0 50 (HCP.out.newer hU0) hl0 _ HR1.out).mono ?_; rintro e w9 ⟨rfl, hq9⟩; unfold resV; rw [HD1.out]; replace hz := Nat.le_trans hz (hq9).size; replace hU0 := hU0.then hq9 (fun _ _ h => h.elim); clear hq9)
    | ((with_reducible refine stopAl 24 rfl ?_); unfold Stop; refine wpList_alloc_blk rfl 24 rfl (.agg #[.int .i64 0, .int .i64 0, .int .i64 0, .int .i64 0, .int .i64 0, .int .i64 0, .int .i64 0, .int .i64 0, .int .i64 0, .int .i64 0, .int .i64 0, .int .i64 0, .int .i64 0, .int .i64 0, .int .i64 0, .int .i64 0, .int .i64 0, .int .i64 0, .int .i64 0, .int .i64 0, .int .i64 0, .int .i64 0]) (by kernel_rfl) #[.int .i64 0, .int .i64 0, .int .i64 0, .int .i64 0, .int .i64 0, .int .i64 0, .int .i64 0, .int .i64 0, .int .i64 0, .int .i64 0, .int .i64 0, .int .i64 0, .int .i64 0, .int .i64 0, .int .i64 0, .int .i64 0, .int .i64 0, .int .i64 0, .int .i64 0, .int .i64 0, .int .i64 0, .int .i64 0] rfl ?_; intro bX wn hbn kn hUn hsn; have gX : w.heap.size ≤ bX := Nat.le_trans hU0.size (Nat.le_of_eq hbn); have kX := kn; replace hU0 := hU0.then hUn (fun _ _ h => h.elim); replace hz : w.heap.size ≤ wn.heap.size := (by omega); clear kn hUn hsn hbn; have cX := cells_of kX; (try simp only [progC, zzT, zzO, zzS] at cX); have fX := frees_of kX)
    | ((with_reducible refine stopSt 24 _ _ rfl ?_); unfold Stop; refine wpList_store_blk rfl 24 _ _ rfl bX 0 rfl (.agg D1) rfl #[.int .i64 0, .int .i64 0, .int .i64 0, .int .i64 0, .int .i64 0, .int .i64 0, .int .i64 0, .int .i64 0, .int .i64 0, .int .i64 0, .int .i64 0, .int .i64 0, .int .i64 0, .int .i64 0, .int .i64 0, .int .i64 0, .int .i64 0, .int .i64 0, .int .i64 0, .int .i64 0, .int .i64 0, .int .i64 0] D1 _ kX MD1.out.le MD1.out.info MD1.out.ones MD1.out.spl ?_; intro w8 k8 hu8 hs8; clear cX fX; replace hz := Nat.le_trans hz (hu8).size; replace hU0 := hU0.then hu8 (fun i hi (e : i = bX) => by omega); have kXv := k8; clear k8 kX hu8 hs8; have cXv := cells_of kXv; (try simp only [progC, zzT, zzO, zzS] at cXv); have fXv := frees_of kXv))
        go_upto_region 8 with (first
    | (go_at_call 15; refine (compiled_any ⟨#[92, 62]⟩ false (qLook 11) (zzB rfl) comp_eow).mono ?_; rintro e w9 ⟨cvQ, rfl, hcdQ, huQ⟩; obtain ⟨caQ, ccQ, rfl⟩ := hcdQ.form; unfold progC; clear cXv fXv; replace kXv := (huQ).heap kXv (fun h => h); replace hz := Nat.le_trans hz (huQ).size; replace hU0 := hU0.then huQ (fun _ _ h => h.elim); have cXv := cells_of kXv; (try simp only [progC, zzT, zzO, zzS] at cXv); have fXv := frees_of kXv; replace HUB := Lib.hid (HUB.out.then hU0.old (fun _ _ h => h)); have HCQ := Lib.hid hcdQ.rows; clear hU0 hz hcdQ huQ; obtain ⟨w, rfl⟩ : ∃ x, x = w9 := ⟨_, rfl⟩; have hU0 := Upd.refl (fun k => w.heap.size ≤ k) w; have hz := Nat.le_refl w.heap.size)
    | (go_at_call 14; refine (at_any (qLook 11) caQ ccQ l 0 50 (HCQ.out.newer hU0) hl0 _ HR2.out).mono ?_; rintro e w9 ⟨rfl, hq9⟩; unfold resV; rw [HD2.out]; clear cXv fXv; replace kXv := (hq9).heap kXv (fun h => h); replace hz := Nat.le_trans hz (hq9).size; replace hU0 := hU0.then hq9 (fun _ _ h => h.elim); have cXv := cells_of kXv; (try simp only [progC, zzT, zzO, zzS] at cXv); have fXv := frees_of kXv; clear hq9)
    | ((with_reducible refine stopAl 24 rfl ?_); unfold Stop; refine wpList_alloc_blk rfl 24 rfl (.agg #[.int .i64 0, .int .i64 0, .int .i64 0, .int .i64 0, .int .i64 0, .int .i64 0, .int .i64 0, .int .i64 0, .int .i64 0, .int .i64 0, .int .i64 0, .int .i64 0, .int .i64 0, .int .i64 0, .int .i64 0, .int .i64 0, .int .i64 0, .int .i64 0, .int .i64 0, .int .i64 0, .int .i64 0, .int .i64 0]) (by kernel_rfl) #[.int .i64 0, .int .i64 0, .int .i64 0, .int .i64 0, .int .i64 0, .int .i64 0, .int .i64 0, .int .i64 0, .int .i64 0, .int .i64 0, .int .i64 0, .int .i64 0, .int .i64 0, .int .i64 0, .int .i64 0, .int .i64 0, .int .i64 0, .int .i64 0, .int .i64 0, .int .i64 0, .int .i64 0, .int .i64 0] rfl ?_; intro bY wn hbn kn hUn hsn; clear cXv fXv; have lXvY := heap_lt kXv; rw [hbn] at lXvY; replace kXv := hUn.heap kXv (fun h => h); have gY : w.heap.size ≤ bY := Nat.le_trans hU0.size (Nat.le_of_eq hbn); have kY := kn; replace hU0 := hU0.then hUn (fun _ _ h => h.elim); replace hz : w.heap.size ≤ wn.heap.size := (by omega); clear kn hUn hsn hbn; have cY := cells_of kY; (try simp only [progC, zzT, zzO, zzS] at cY); have fY := frees_of kY; have cXv := cells_of kXv; (try simp only [progC, zzT, zzO, zzS] at cXv); have fXv := frees_of kXv)
    | ((with_reducible refine stopSt 24 _ _ rfl ?_); unfold Stop; refine wpList_store_blk rfl 24 _ _ rfl bY 0 rfl (.agg D2) rfl #[.int .i64 0, .int .i64 0, .int .i64 0, .int .i64 0, .int .i64 0, .int .i64 0, .int .i64 0, .int .i64 0, .int .i64 0, .int .i64 0, .int .i64 0, .int .i64 0, .int .i64 0, .int .i64 0, .int .i64 0, .int .i64 0, .int .i64 0, .int .i64 0, .int .i64 0, .int .i64 0, .int .i64 0, .int .i64 0] D2 _ kY MD2.out.le MD2.out.info MD2.out.ones MD2.out.spl ?_; intro w8 k8 hu8 hs8; clear cY fY; clear cXv fXv; replace kXv := (hu8).heap kXv ((by omega)); replace hz := Nat.le_trans hz (hu8).size; replace hU0 := hU0.then hu8 (fun i hi (e : i = bY) => by omega); have cXv := cells_of kXv; (try simp only [progC, zzT, zzO, zzS] at cXv); have fXv := frees_of kXv; have kYv := k8; clear k8 kY hu8 hs8; have cYv := cells_of kYv; (try simp only [progC, zzT, zzO, zzS] at cYv); have fYv := frees_of kYv))
        clear cXv cYv
        cases C
        all_goals
          go_wp2_with fail
          go_ret
          exact ⟨rfl, HFIN.out _ (HUB.out.then hU0.old (fun _ _ h => h))⟩
    · have hk1 : k - 1 < l.size := by omega
      have hA2 : isB 119 ((l[k - 1]'hk1).toNat : Int) = A := by rw [bl_at hk1]; exact hA
      clear hA
      go_upto_region 5 with (first
        | (go_at_call 18; refine (rIs_any 119 _ (by decide) (by decide) _).mono ?_; rintro e w9 ⟨rfl, rfl⟩))
      clear hA2
      rcases HC.out with ⟨hkk, rfl⟩ | ⟨hkk, hC⟩
      · have gk : ¬ (k : Int) < (l.size : Int) := by omega
        clear hkk
        go_upto_region 6 with (first
          | (go_at_call 18; refine (rIs_any 119 _ (by decide) (by decide) _).mono ?_; rintro e w9 ⟨rfl, rfl⟩))
        go_upto_region 7 with (first
    | (go_at_call 15; refine (compiled_any ⟨#[92, 60]⟩ false (qLook 10) (zzB rfl) comp_bow).mono ?_; rintro e w9 ⟨cvP, rfl, hcdP, huP⟩; obtain ⟨caP, ccP, rfl⟩ := hcdP.form; unfold progC; replace hz := Nat.le_trans hz (huP).size; replace hU0 := hU0.then huP (fun _ _ h => h.elim); replace HUB := Lib.hid (HUB.out.then hU0.old (fun _ _ h => h)); have HCP := Lib.hid hcdP.rows; clear hU0 hz hcdP huP; obtain ⟨w, rfl⟩ : ∃ x, x = w9 := ⟨_, rfl⟩; have hU0 := Upd.refl (fun k => w.heap.size ≤ k) w; have hz := Nat.le_refl w.heap.size)
    | (go_at_call 14; refine (at_any (qLook 10) caP ccP l k 50 (HCP.out.newer hU0) hl0 _ HR1.out).mono ?_; rintro e w9 ⟨rfl, hq9⟩; unfold resV; rw [HD1.out]; replace hz := Nat.le_trans hz (hq9).size; replace hU0 := hU0.then hq9 (fun _ _ h => h.elim); clear hq9)
    | ((with_reducible refine stopAl 24 rfl ?_); unfold Stop; refine wpList_alloc_blk rfl 24 rfl (.agg #[.int .i64 0, .int .i64 0, .int .i64 0, .int .i64 0, .int .i64 0, .int .i64 0, .int .i64 0, .int .i64 0, .int .i64 0, .int .i64 0, .int .i64 0, .int .i64 0, .int .i64 0, .int .i64 0, .int .i64 0, .int .i64 0, .int .i64 0, .int .i64 0, .int .i64 0, .int .i64 0, .int .i64 0, .int .i64 0]) (by kernel_rfl) #[.int .i64 0, .int .i64 0, .int .i64 0, .int .i64 0, .int .i64 0, .int .i64 0, .int .i64 0, .int .i64 0, .int .i64 0, .int .i64 0, .int .i64 0, .int .i64 0, .int .i64 0, .int .i64 0, .int .i64 0, .int .i64 0, .int .i64 0, .int .i64 0, .int .i64 0, .int .i64 0, .int .i64 0, .int .i64 0] rfl ?_; intro bX wn hbn kn hUn hsn; have gX : w.heap.size ≤ bX := Nat.le_trans hU0.size (Nat.le_of_eq hbn); have kX := kn; replace hU0 := hU0.then hUn (fun _ _ h => h.elim); replace hz : w.heap.size ≤ wn.heap.size := (by omega); clear kn hUn hsn hbn; have cX := cells_of kX; (try simp only [progC, zzT, zzO, zzS] at cX); have fX := frees_of kX)
    | ((with_reducible refine stopSt 24 _ _ rfl ?_); unfold Stop; refine wpList_store_blk rfl 24 _ _ rfl bX 0 rfl (.agg D1) rfl #[.int .i64 0, .int .i64 0, .int .i64 0, .int .i64 0, .int .i64 0, .int .i64 0, .int .i64 0, .int .i64 0, .int .i64 0, .int .i64 0, .int .i64 0, .int .i64 0, .int .i64 0, .int .i64 0, .int .i64 0, .int .i64 0, .int .i64 0, .int .i64 0, .int .i64 0, .int .i64 0, .int .i64 0, .int .i64 0] D1 _ kX MD1.out.le MD1.out.info MD1.out.ones MD1.out.spl ?_; intro w8 k8 hu8 hs8; clear cX fX; replace hz := Nat.le_trans hz (hu8).size; replace hU0 := hU0.then hu8 (fun i hi (e : i = bX) => by omega); have kXv := k8; clear k8 kX hu8 hs8; have cXv := cells_of kXv; (try simp only [progC, zzT, zzO, zzS] at cXv); have fXv := frees_of kXv))
        go_upto_region 8 with (first
    | (go_at_call 15; refine (compiled_any ⟨#[92, 62]⟩ false (qLook 11) (zzB rfl) comp_eow).mono ?_; rintro e w9 ⟨cvQ, rfl, hcdQ, huQ⟩; obtain ⟨caQ, ccQ, rfl⟩ := hcdQ.form; unfold progC; clear cXv fXv; replace kXv := (huQ).heap kXv (fun h => h); replace hz := Nat.le_trans hz (huQ).size; replace hU0 := hU0.then huQ (fun _ _ h => h.elim); have cXv := cells_of kXv; (try simp only [progC, zzT, zzO, zzS] at cXv); have fXv := frees_of kXv; replace HUB := Lib.hid (HUB.out.then hU0.old (fun _ _ h => h)); have HCQ := Lib.hid hcdQ.rows; clear hU0 hz hcdQ huQ; obtain ⟨w, rfl⟩ : ∃ x, x = w9 := ⟨_, rfl⟩; have hU0 := Upd.refl (fun k => w.heap.size ≤ k) w; have hz := Nat.le_refl w.heap.size)
    | (go_at_call 14; refine (at_any (qLook 11) caQ ccQ l k 50 (HCQ.out.newer hU0) hl0 _ HR2.out).mono ?_; rintro e w9 ⟨rfl, hq9⟩; unfold resV; rw [HD2.out]; clear cXv fXv; replace kXv := (hq9).heap kXv (fun h => h); replace hz := Nat.le_trans hz (hq9).size; replace hU0 := hU0.then hq9 (fun _ _ h => h.elim); have cXv := cells_of kXv; (try simp only [progC, zzT, zzO, zzS] at cXv); have fXv := frees_of kXv; clear hq9)
    | ((with_reducible refine stopAl 24 rfl ?_); unfold Stop; refine wpList_alloc_blk rfl 24 rfl (.agg #[.int .i64 0, .int .i64 0, .int .i64 0, .int .i64 0, .int .i64 0, .int .i64 0, .int .i64 0, .int .i64 0, .int .i64 0, .int .i64 0, .int .i64 0, .int .i64 0, .int .i64 0, .int .i64 0, .int .i64 0, .int .i64 0, .int .i64 0, .int .i64 0, .int .i64 0, .int .i64 0, .int .i64 0, .int .i64 0]) (by kernel_rfl) #[.int .i64 0, .int .i64 0, .int .i64 0, .int .i64 0, .int .i64 0, .int .i64 0, .int .i64 0, .int .i64 0, .int .i64 0, .int .i64 0, .int .i64 0, .int .i64 0, .int .i64 0, .int .i64 0, .int .i64 0, .int .i64 0, .int .i64 0, .int .i64 0, .int .i64 0, .int .i64 0, .int .i64 0, .int .i64 0] rfl ?_; intro bY wn hbn kn hUn hsn; clear cXv fXv; have lXvY := heap_lt kXv; rw [hbn] at lXvY; replace kXv := hUn.heap kXv (fun h => h); have gY : w.heap.size ≤ bY := Nat.le_trans hU0.size (Nat.le_of_eq hbn); have kY := kn; replace hU0 := hU0.then hUn (fun _ _ h => h.elim); replace hz : w.heap.size ≤ wn.heap.size := (by omega); clear kn hUn hsn hbn; have cY := cells_of kY; (try simp only [progC, zzT, zzO, zzS] at cY); have fY := frees_of kY; have cXv := cells_of kXv; (try simp only [progC, zzT, zzO, zzS] at cXv); have fXv := frees_of kXv)
    | ((with_reducible refine stopSt 24 _ _ rfl ?_); unfold Stop; refine wpList_store_blk rfl 24 _ _ rfl bY 0 rfl (.agg D2) rfl #[.int .i64 0, .int .i64 0, .int .i64 0, .int .i64 0, .int .i64 0, .int .i64 0, .int .i64 0, .int .i64 0, .int .i64 0, .int .i64 0, .int .i64 0, .int .i64 0, .int .i64 0, .int .i64 0, .int .i64 0, .int .i64 0, .int .i64 0, .int .i64 0, .int .i64 0, .int .i64 0, .int .i64 0, .int .i64 0] D2 _ kY MD2.out.le MD2.out.info MD2.out.ones MD2.out.spl ?_; intro w8 k8 hu8 hs8; clear cY fY; clear cXv fXv; replace kXv := (hu8).heap kXv ((by omega)); replace hz := Nat.le_trans hz (hu8).size; replace hU0 := hU0.then hu8 (fun i hi (e : i = bY) => by omega); have cXv := cells_of kXv; (try simp only [progC, zzT, zzO, zzS] at cXv); have fXv := frees_of kXv; have kYv := k8; clear k8 kY hu8 hs8; have cYv := cells_of kYv; (try simp only [progC, zzT, zzO, zzS] at cYv); have fYv := frees_of kYv))
        clear cXv cYv
        cases A <;> skip
        all_goals
          go_wp2_with fail
          go_ret
          exact ⟨rfl, HFIN.out _ (HUB.out.then hU0.old (fun _ _ h => h))⟩
      · have gk : (k : Int) < (l.size : Int) := by omega
        have hC2 : isB 119 ((l[k]'hkk).toNat : Int) = C := by rw [bl_at hkk]; exact hC
        clear hC
        go_upto_region 6 with (first
          | (go_at_call 18; refine (rIs_any 119 _ (by decide) (by decide) _).mono ?_; rintro e w9 ⟨rfl, rfl⟩))
        go_upto_region 7 with (first
    | (go_at_call 15; refine (compiled_any ⟨#[92, 60]⟩ false (qLook 10) (zzB rfl) comp_bow).mono ?_; rintro e w9 ⟨cvP, rfl, hcdP, huP⟩; obtain ⟨caP, ccP, rfl⟩ := hcdP.form; unfold progC; replace hz := Nat.le_trans hz (huP).size; replace hU0 := hU0.then huP (fun _ _ h => h.elim); replace HUB := Lib.hid (HUB.out.then hU0.old (fun _ _ h => h)); have HCP := Lib.hid hcdP.rows; clear hU0 hz hcdP huP; obtain ⟨w, rfl⟩ : ∃ x, x = w9 := ⟨_, rfl⟩; have hU0 := Upd.refl (fun k => w.heap.size ≤ k) w; have hz := Nat.le_refl w.heap.size)
    | (go_at_call 14; refine (at_any (qLook 10) caP ccP l k 50 (HCP.out.newer hU0) hl0 _ HR1.out).mono ?_; rintro e w9 ⟨rfl, hq9⟩; unfold resV; rw [HD1.out]; replace hz := Nat.le_trans hz (hq9).size; replace hU0 := hU0.then hq9 (fun _ _ h => h.elim); clear hq9)
    | ((with_reducible refine stopAl 24 rfl ?_); unfold Stop; refine wpList_alloc_blk rfl 24 rfl (.agg #[.int .i64 0, .int .i64 0, .int .i64 0, .int .i64 0, .int .i64 0, .int .i64 0, .int .i64 0, .int .i64 0, .int .i64 0, .int .i64 0, .int .i64 0, .int .i64 0, .int .i64 0, .int .i64 0, .int .i64 0, .int .i64 0, .int .i64 0, .int .i64 0, .int .i64 0, .int .i64 0, .int .i64 0, .int .i64 0]) (by kernel_rfl) #[.int .i64 0, .int .i64 0, .int .i64 0, .int .i64 0, .int .i64 0, .int .i64 0, .int .i64 0, .int .i64 0, .int .i64 0, .int .i64 0, .int .i64 0, .int .i64 0, .int .i64 0, .int .i64 0, .int .i64 0, .int .i64 0, .int .i64 0, .int .i64 0, .int .i64 0, .int .i64 0, .int .i64 0, .int .i64 0] rfl ?_; intro bX wn hbn kn hUn hsn; have gX : w.heap.size ≤ bX := Nat.le_trans hU0.size (Nat.le_of_eq hbn); have kX := kn; replace hU0 := hU0.then hUn (fun _ _ h => h.elim); replace hz : w.heap.size ≤ wn.heap.size := (by omega); clear kn hUn hsn hbn; have cX := cells_of kX; (try simp only [progC, zzT, zzO, zzS] at cX); have fX := frees_of kX)
    | ((with_reducible refine stopSt 24 _ _ rfl ?_); unfold Stop; refine wpList_store_blk rfl 24 _ _ rfl bX 0 rfl (.agg D1) rfl #[.int .i64 0, .int .i64 0, .int .i64 0, .int .i64 0, .int .i64 0, .int .i64 0, .int .i64 0, .int .i64 0, .int .i64 0, .int .i64 0, .int .i64 0, .int .i64 0, .int .i64 0, .int .i64 0, .int .i64 0, .int .i64 0, .int .i64 0, .int .i64 0, .int .i64 0, .int .i64 0, .int .i64 0, .int .i64 0] D1 _ kX MD1.out.le MD1.out.info MD1.out.ones MD1.out.spl ?_; intro w8 k8 hu8 hs8; clear cX fX; replace hz := Nat.le_trans hz (hu8).size; replace hU0 := hU0.then hu8 (fun i hi (e : i = bX) => by omega); have kXv := k8; clear k8 kX hu8 hs8; have cXv := cells_of kXv; (try simp only [progC, zzT, zzO, zzS] at cXv); have fXv := frees_of kXv))
        go_upto_region 8 with (first
    | (go_at_call 15; refine (compiled_any ⟨#[92, 62]⟩ false (qLook 11) (zzB rfl) comp_eow).mono ?_; rintro e w9 ⟨cvQ, rfl, hcdQ, huQ⟩; obtain ⟨caQ, ccQ, rfl⟩ := hcdQ.form; unfold progC; clear cXv fXv; replace kXv := (huQ).heap kXv (fun h => h); replace hz := Nat.le_trans hz (huQ).size; replace hU0 := hU0.then huQ (fun _ _ h => h.elim); have cXv := cells_of kXv; (try simp only [progC, zzT, zzO, zzS] at cXv); have fXv := frees_of kXv; replace HUB := Lib.hid (HUB.out.then hU0.old (fun _ _ h => h)); have HCQ := Lib.hid hcdQ.rows; clear hU0 hz hcdQ huQ; obtain ⟨w, rfl⟩ : ∃ x, x = w9 := ⟨_, rfl⟩; have hU0 := Upd.refl (fun k => w.heap.size ≤ k) w; have hz := Nat.le_refl w.heap.size)
    | (go_at_call 14; refine (at_any (qLook 11) caQ ccQ l k 50 (HCQ.out.newer hU0) hl0 _ HR2.out).mono ?_; rintro e w9 ⟨rfl, hq9⟩; unfold resV; rw [HD2.out]; clear cXv fXv; replace kXv := (hq9).heap kXv (fun h => h); replace hz := Nat.le_trans hz (hq9).size; replace hU0 := hU0.then hq9 (fun _ _ h => h.elim); have cXv := cells_of kXv; (try simp only [progC, zzT, zzO, zzS] at cXv); have fXv := frees_of kXv; clear hq9)
    | ((with_reducible refine stopAl 24 rfl ?_); unfold Stop; refine wpList_alloc_blk rfl 24 rfl (.agg #[.int .i64 0, .int .i64 0, .int .i64 0, .int .i64 0, .int .i64 0, .int .i64 0, .int .i64 0, .int .i64 0, .int .i64 0, .int .i64 0, .int .i64 0, .int .i64 0, .int .i64 0, .int .i64 0, .int .i64 0, .int .i64 0, .int .i64 0, .int .i64 0, .int .i64 0, .int .i64 0, .int .i64 0, .int .i64 0]) (by kernel_rfl) #[.int .i64 0, .int .i64 0, .int .i64 0, .int .i64 0, .int .i64 0, .int .i64 0, .int .i64 0, .int .i64 0, .int .i64 0, .int .i64 0, .int .i64 0, .int .i64 0, .int .i64 0, .int .i64 0, .int .i64 0, .int .i64 0, .int .i64 0, .int .i64 0, .int .i64 0, .int .i64 0, .int .i64 0, .int .i64 0] rfl ?_; intro bY wn hbn kn hUn hsn; clear cXv fXv; have lXvY := heap_lt kXv; rw [hbn] at lXvY; replace kXv := hUn.heap kXv (fun h => h); have gY : w.heap.size ≤ bY := Nat.le_trans hU0.size (Nat.le_of_eq hbn); have kY := kn; replace hU0 := hU0.then hUn (fun _ _ h => h.elim); replace hz : w.heap.size ≤ wn.heap.size := (by omega); clear kn hUn hsn hbn; have cY := cells_of kY; (try simp only [progC, zzT, zzO, zzS] at cY); have fY := frees_of kY; have cXv := cells_of kXv; (try simp only [progC, zzT, zzO, zzS] at cXv); have fXv := frees_of kXv)
    | ((with_reducible refine stopSt 24 _ _ rfl ?_); unfold Stop; refine wpList_store_blk rfl 24 _ _ rfl bY 0 rfl (.agg D2) rfl #[.int .i64 0, .int .i64 0, .int .i64 0, .int .i64 0, .int .i64 0, .int .i64 0, .int .i64 0, .int .i64 0, .int .i64 0, .int .i64 0, .int .i64 0, .int .i64 0, .int .i64 0, .int .i64 0, .int .i64 0, .int .i64 0, .int .i64 0, .int .i64 0, .int .i64 0, .int .i64 0, .int .i64 0, .int .i64 0] D2 _ kY MD2.out.le MD2.out.info MD2.out.ones MD2.out.spl ?_; intro w8 k8 hu8 hs8; clear cY fY; clear cXv fXv; replace kXv := (hu8).heap kXv ((by omega)); replace hz := Nat.le_trans hz (hu8).size; replace hU0 := hU0.then hu8 (fun i hi (e : i = bY) => by omega); have cXv := cells_of kXv; (try simp only [progC, zzT, zzO, zzS] at cXv); have fXv := frees_of kXv; have kYv := k8; clear k8 kY hu8 hs8; have cYv := cells_of kYv; (try simp only [progC, zzT, zzO, zzS] at cYv); have fYv := frees_of kYv))
        clear cXv cYv
        cases A <;> cases C
        all_goals
          go_wp2_with fail
          go_ret
          exact ⟨rfl, HFIN.out _ (HUB.out.then hU0.old (fun _ _ h => h))⟩
end Go.Proofs.Ytigbfgmgdfnhcaa
