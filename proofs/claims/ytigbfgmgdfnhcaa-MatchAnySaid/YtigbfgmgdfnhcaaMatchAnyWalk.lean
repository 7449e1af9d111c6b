/- The walk of the law MatchAny. (Printed by tools/anygen.py.) -/
import Derived.Test.YtigbfgmgdfnhcaaBaseA41
import Derived.Test.YtigbfgmgdfnhcaaBaseA0
set_option linter.all false
set_option linter.unusedVariables false
set_option linter.unusedSimpArgs false
namespace Go.Proofs.Ytigbfgmgdfnhcaa
open Go.RowKit

set_option maxRecDepth 100000 in
set_option maxHeartbeats 8000000 in
theorem any_law {W : World} (a0 : Array Value) (p : ProgD) (hx : ∃ ca cc, (Value.agg a0).cells.toList = [.slice ca p.code.length cc, .int .i64 p.rounds, .bool p.fold] ∧ CodeR W ca p.code) (l : ByteArray) (hl : l.size ≤ maxLen) (a : Int) (a1 : -9223372036854775808 ≤ a) (a2 : a ≤ 9223372036854775807) (st : Int) (s1 : -9223372036854775808 ≤ st) (s2 : st ≤ 9223372036854775807) :
    Calls Try.prog 6 #[.agg a0, .string l, .int .i64 a, .int .i64 st] W fun e w' => e = .returned (.bool true) ∧ Below W.heap.size W w' := by
  obtain ⟨caP, ccP, ea, hcode⟩ := hx
  obtain rfl : a0 = #[.slice caP p.code.length ccP, .int .i64 p.rounds, .bool p.fold] := by
    have e : a0.toList = [.slice caP p.code.length ccP, .int .i64 p.rounds, .bool p.fold] := ea
    cases a0; simpa using e
  have HFIN : Hid (∀ w', Upd (fun _ => False) W w' → Below W.heap.size W w') := Lib.hid (fun w' h => h.below (Nat.le_refl _) (fun _ _ h => h))
  have HCP := Lib.hid hcode
  obtain ⟨w, rfl⟩ : ∃ w, w = W := ⟨_, rfl⟩
  have hU0 := Upd.refl (fun k => w.heap.size ≤ k) w
  have hz := Nat.le_refl w.heap.size
  clear hl ea hcode
  go_enter Try.func6, Try.ntmps6
  go_upto_region 1 with (first
    | ((with_reducible refine stopBx 31 _ rfl ?_); unfold Stop; refine wpList_box_blk rfl 31 _ rfl _ (by go_simp; first | done | exact rfl) #[.slice caP p.code.length ccP, .int .i64 p.rounds, .bool p.fold] rfl ?_; intro bP wn hbn kn hUn hsn; have gP : w.heap.size ≤ bP := Nat.le_trans hU0.size (Nat.le_of_eq hbn); have kP := kn; replace hU0 := hU0.then hUn (fun _ _ h => h.elim); replace hz : w.heap.size ≤ wn.heap.size := (by omega); clear kn hUn hsn hbn; have cP := cells_of kP; (try simp only [progC, zzT, zzO, zzS] at cP); have fP := frees_of kP))
  rcases (show 60 < p.code.length ∨ (¬ 60 < p.code.length ∧ 60 < p.rounds) ∨ (¬ 60 < p.code.length ∧ ¬ 60 < p.rounds ∧ 60 < l.size) ∨ (¬ 60 < p.code.length ∧ ¬ 60 < p.rounds ∧ ¬ 60 < l.size) by omega) with h1 | ⟨h1, h2⟩ | ⟨h1, h2, h3⟩ | ⟨h1, h2, h3⟩
  · have g1 : (60 : Int) < (p.code.length : Int) := by omega
    go_wp2_with (first
      | (go_at_call 17; refine known_any.mono ?_; rintro e w9 ⟨rfl, hq9⟩; clear cP fP; replace kP := (hq9).heap kP (fun h => h); replace hz := Nat.le_trans hz (hq9).size; replace hU0 := hU0.then hq9 (fun _ _ h => h.elim); have cP := cells_of kP; (try simp only [progC, zzT, zzO, zzS] at cP); have fP := frees_of kP; clear hq9))
    go_ret
    exact ⟨rfl, HFIN.out _ hU0.old⟩
  · have g1 : ¬ (60 : Int) < (p.code.length : Int) := by omega
    go_wp2_with (first
      | (go_at_call 17; refine known_any.mono ?_; rintro e w9 ⟨rfl, hq9⟩; clear cP fP; replace kP := (hq9).heap kP (fun h => h); replace hz := Nat.le_trans hz (hq9).size; replace hU0 := hU0.then hq9 (fun _ _ h => h.elim); have cP := cells_of kP; (try simp only [progC, zzT, zzO, zzS] at cP); have fP := frees_of kP; clear hq9))
    go_ret
    exact ⟨rfl, HFIN.out _ hU0.old⟩
  · have g1 : ¬ (60 : Int) < (p.code.length : Int) := by omega
    have g3 : (60 : Int) < (l.size : Int) := by omega
    go_wp2_with (first
      | (go_at_call 17; refine known_any.mono ?_; rintro e w9 ⟨rfl, hq9⟩; clear cP fP; replace kP := (hq9).heap kP (fun h => h); replace hz := Nat.le_trans hz (hq9).size; replace hU0 := hU0.then hq9 (fun _ _ h => h.elim); have cP := cells_of kP; (try simp only [progC, zzT, zzO, zzS] at cP); have fP := frees_of kP; clear hq9))
    go_ret
    exact ⟨rfl, HFIN.out _ hU0.old⟩
  · have g1 : ¬ (60 : Int) < (p.code.length : Int) := by omega
    have g3 : ¬ (60 : Int) < (l.size : Int) := by omega
    have hl0 : l.size ≤ 140737488351232 := by omega
    obtain ⟨⟨m1, l1, is1, e1⟩, hr1⟩ := atF_some p l.data.toList a st
    obtain ⟨D1, hD1⟩ : ∃ D, matchC m1 = D := ⟨_, rfl⟩
    have hl1 := atF_len hr1
    simp only [] at hl1
    have MD1 : Hid (MD D1) := Lib.hid (by rw [← hD1]; exact md_of hl1)
    have HE1 : ∀ w, (Op.equalIn 10000 24 (.agg D1) (.agg D1)).run Try.prog w = .ok true w := fun w => by rw [← hD1, equal_match w m1 m1 hl1.1 hl1.2 hl1.1 hl1.2]; simp
    have her1 := (atF_left hr1).2.2.1
    simp only [] at her1
    have HD1 := Lib.hid hD1
    have HR1 := Lib.hid hr1
    clear hr1 hD1 hl1
    go_upto_region 3 with (first
      | (go_at_call 17; refine known_any.mono ?_; rintro e w9 ⟨rfl, hq9⟩; clear cP fP; replace kP := (hq9).heap kP (fun h => h); replace hz := Nat.le_trans hz (hq9).size; replace hU0 := hU0.then hq9 (fun _ _ h => h.elim); have cP := cells_of kP; (try simp only [progC, zzT, zzO, zzS] at cP); have fP := frees_of kP; clear hq9))
    go_upto_region 4 with (first
    | ((with_reducible refine stopLd 31 _ rfl ?_); unfold Stop; refine wpList_load_row rfl 31 _ rfl _ rfl 31 _ (0, 0) _ kP Try.underlying31 rfl (by kernel_rfl) ?_)
    | (go_at_call 14; refine (at_any p caP ccP l a st (HCP.out.newer hU0) hl0 _ HR1.out).mono ?_; rintro e w9 ⟨rfl, hq9⟩; unfold resV; rw [HD1.out]; clear cP fP; replace kP := (hq9).heap kP (fun h => h); replace hz := Nat.le_trans hz (hq9).size; replace hU0 := hU0.then hq9 (fun _ _ h => h.elim); have cP := cells_of kP; (try simp only [progC, zzT, zzO, zzS] at cP); have fP := frees_of kP; clear hq9)
    | ((with_reducible refine stopAl 24 rfl ?_); unfold Stop; refine wpList_alloc_blk rfl 24 rfl (.agg #[.int .i64 0, .int .i64 0, .int .i64 0, .int .i64 0, .int .i64 0, .int .i64 0, .int .i64 0, .int .i64 0, .int .i64 0, .int .i64 0, .int .i64 0, .int .i64 0, .int .i64 0, .int .i64 0, .int .i64 0, .int .i64 0, .int .i64 0, .int .i64 0, .int .i64 0, .int .i64 0, .int .i64 0, .int .i64 0]) (by kernel_rfl) #[.int .i64 0, .int .i64 0, .int .i64 0, .int .i64 0, .int .i64 0, .int .i64 0, .int .i64 0, .int .i64 0, .int .i64 0, .int .i64 0, .int .i64 0, .int .i64 0, .int .i64 0, .int .i64 0, .int .i64 0, .int .i64 0, .int .i64 0, .int .i64 0, .int .i64 0, .int .i64 0, .int .i64 0, .int .i64 0] rfl ?_; intro bX wn hbn kn hUn hsn; clear cP fP; have lPX := heap_lt kP; rw [hbn] at lPX; replace kP := hUn.heap kP (fun h => h); have gX : w.heap.size ≤ bX := Nat.le_trans hU0.size (Nat.le_of_eq hbn); have kX := kn; replace hU0 := hU0.then hUn (fun _ _ h => h.elim); replace hz : w.heap.size ≤ wn.heap.size := (by omega); clear kn hUn hsn hbn; have cX := cells_of kX; (try simp only [progC, zzT, zzO, zzS] at cX); have fX := frees_of kX; have cP := cells_of kP; (try simp only [progC, zzT, zzO, zzS] at cP); have fP := frees_of kP)
    | ((with_reducible refine stopSt 24 _ _ rfl ?_); unfold Stop; refine wpList_store_blk rfl 24 _ _ rfl bX 0 rfl (.agg D1) rfl #[.int .i64 0, .int .i64 0, .int .i64 0, .int .i64 0, .int .i64 0, .int .i64 0, .int .i64 0, .int .i64 0, .int .i64 0, .int .i64 0, .int .i64 0, .int .i64 0, .int .i64 0, .int .i64 0, .int .i64 0, .int .i64 0, .int .i64 0, .int .i64 0, .int .i64 0, .int .i64 0, .int .i64 0, .int .i64 0] D1 _ kX MD1.out.le MD1.out.info MD1.out.ones MD1.out.spl ?_; intro w8 k8 hu8 hs8; clear cX fX; clear cP fP; replace kP := (hu8).heap kP ((by omega)); replace hz := Nat.le_trans hz (hu8).size; replace hU0 := hU0.then hu8 (fun i hi (e : i = bX) => by omega); have cP := cells_of kP; (try simp only [progC, zzT, zzO, zzS] at cP); have fP := frees_of kP; have kXv := k8; clear k8 kX hu8 hs8; have cXv := cells_of kXv; (try simp only [progC, zzT, zzO, zzS] at cXv); have fXv := frees_of kXv))
    go_upto_region 5 with (first
    | ((with_reducible refine stopLd 31 _ rfl ?_); unfold Stop; refine wpList_load_row rfl 31 _ rfl _ rfl 31 _ (0, 0) _ kP Try.underlying31 rfl (by kernel_rfl) ?_)
    | (go_at_call 19; refine (rat_any p caP ccP l a st (HCP.out.newer hU0) hl0 _ HR1.out).mono ?_; rintro e w9 ⟨rfl, hq9⟩; unfold resV; rw [HD1.out]; clear cP fP cXv fXv; replace kP := (hq9).heap kP (fun h => h); replace kXv := (hq9).heap kXv (fun h => h); replace hz := Nat.le_trans hz (hq9).size; replace hU0 := hU0.then hq9 (fun _ _ h => h.elim); have cP := cells_of kP; (try simp only [progC, zzT, zzO, zzS] at cP); have fP := frees_of kP; have cXv := cells_of kXv; (try simp only [progC, zzT, zzO, zzS] at cXv); have fXv := frees_of kXv; clear hq9)
    | ((with_reducible refine stopAl 24 rfl ?_); unfold Stop; refine wpList_alloc_blk rfl 24 rfl (.agg #[.int .i64 0, .int .i64 0, .int .i64 0, .int .i64 0, .int .i64 0, .int .i64 0, .int .i64 0, .int .i64 0, .int .i64 0, .int .i64 0, .int .i64 0, .int .i64 0, .int .i64 0, .int .i64 0, .int .i64 0, .int .i64 0, .int .i64 0, .int .i64 0, .int .i64 0, .int .i64 0, .int .i64 0, .int .i64 0]) (by kernel_rfl) #[.int .i64 0, .int .i64 0, .int .i64 0, .int .i64 0, .int .i64 0, .int .i64 0, .int .i64 0, .int .i64 0, .int .i64 0, .int .i64 0, .int .i64 0, .int .i64 0, .int .i64 0, .int .i64 0, .int .i64 0, .int .i64 0, .int .i64 0, .int .i64 0, .int .i64 0, .int .i64 0, .int .i64 0, .int .i64 0] rfl ?_; intro bY wn hbn kn hUn hsn; clear cP fP cXv fXv; have lPY := heap_lt kP; rw [hbn] at lPY; replace kP := hUn.heap kP (fun h => h); have lXvY := heap_lt kXv; rw [hbn] at lXvY; replace kXv := hUn.heap kXv (fun h => h); have gY : w.heap.size ≤ bY := Nat.le_trans hU0.size (Nat.le_of_eq hbn); have kY := kn; replace hU0 := hU0.then hUn (fun _ _ h => h.elim); replace hz : w.heap.size ≤ wn.heap.size := (by omega); clear kn hUn hsn hbn; have cY := cells_of kY; (try simp only [progC, zzT, zzO, zzS] at cY); have fY := frees_of kY; have cP := cells_of kP; (try simp only [progC, zzT, zzO, zzS] at cP); have fP := frees_of kP; have cXv := cells_of kXv; (try simp only [progC, zzT, zzO, zzS] at cXv); have fXv := frees_of kXv)
    | ((with_reducible refine stopSt 24 _ _ rfl ?_); unfold Stop; refine wpList_store_blk rfl 24 _ _ rfl bY 0 rfl (.agg D1) rfl #[.int .i64 0, .int .i64 0, .int .i64 0, .int .i64 0, .int .i64 0, .int .i64 0, .int .i64 0, .int .i64 0, .int .i64 0, .int .i64 0, .int .i64 0, .int .i64 0, .int .i64 0, .int .i64 0, .int .i64 0, .int .i64 0, .int .i64 0, .int .i64 0, .int .i64 0, .int .i64 0, .int .i64 0, .int .i64 0] D1 _ kY MD1.out.le MD1.out.info MD1.out.ones MD1.out.spl ?_; intro w8 k8 hu8 hs8; clear cY fY; clear cP fP cXv fXv; replace kP := (hu8).heap kP ((by omega)); replace kXv := (hu8).heap kXv ((by omega)); replace hz := Nat.le_trans hz (hu8).size; replace hU0 := hU0.then hu8 (fun i hi (e : i = bY) => by omega); have cP := cells_of kP; (try simp only [progC, zzT, zzO, zzS] at cP); have fP := frees_of kP; have cXv := cells_of kXv; (try simp only [progC, zzT, zzO, zzS] at cXv); have fXv := frees_of kXv; have kYv := k8; clear k8 kY hu8 hs8; have cYv := cells_of kYv; (try simp only [progC, zzT, zzO, zzS] at cYv); have fYv := frees_of kYv))
    clear cXv cYv
    have w1 : IntKind.i64.wrap e1 = e1 := by rcases her1 with h | h | h <;> subst h <;> rfl
    go_wp2_with (first
    | ((with_reducible refine stopLd 24 _ rfl ?_); unfold Stop; refine wpList_load_row rfl 24 _ rfl _ rfl 24 _ (0, 0) _ kXv Try.underlying24 rfl MD1.out.info ?_)
    | ((with_reducible refine stopLd 24 _ rfl ?_); unfold Stop; refine wpList_load_row rfl 24 _ rfl _ rfl 24 _ (0, 0) _ kYv Try.underlying24 rfl MD1.out.info ?_))
    go_ret
    exact ⟨rfl, HFIN.out _ hU0.old⟩
end Go.Proofs.Ytigbfgmgdfnhcaa
