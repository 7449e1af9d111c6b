/- The walk of the law MatchLeast. (Printed by tools/leastgen.py.) -/
import Derived.Test.YtigbfgmgdfnhcaaBaseA41
import Derived.Test.YtigbfgmgdfnhcaaBaseA42
import Derived.Test.YtigbfgmgdfnhcaaBaseCompSome
import Derived.Test.YtigbfgmgdfnhcaaBaseA0
set_option linter.all false
set_option linter.unusedVariables false
set_option linter.unusedSimpArgs false
namespace Go.Proofs.Ytigbfgmgdfnhcaa
open Go.RowKit

set_option maxRecDepth 100000 in
set_option maxHeartbeats 8000000 in
theorem least_law (s : ByteArray) (hs : s.size ≤ maxLen) (fold : Bool) (l : ByteArray) (hl : l.size ≤ maxLen) (W : World) :
    Calls Try.prog 13 #[.string s, .bool fold, .string l] W fun e w' => e = .returned (.bool true) ∧ Below W.heap.size W w' := by
  have HFIN : Hid (∀ w', Upd (fun _ => False) W w' → Below W.heap.size W w') := Lib.hid (fun w' h => h.below (Nat.le_refl _) (fun _ _ h => h))
  have HUB := Lib.hid (Upd.refl (fun _ => False) W)
  obtain ⟨w, rfl⟩ : ∃ w, w = W := ⟨_, rfl⟩
  have hU0 := Upd.refl (fun k => w.heap.size ≤ k) w
  have hz := Nat.le_refl w.heap.size
  clear hs hl
  go_enter Try.func13, Try.ntmps13
  rcases (show 100 < s.size ∨ (¬ 100 < s.size ∧ 60 < l.size) ∨ (¬ 100 < s.size ∧ ¬ 60 < l.size) by omega) with h1 | ⟨h1, h2⟩ | ⟨h1, h2⟩
  · have g1 : (100 : Int) < (s.size : Int) := by omega
    go_wp2_with (first
      | (go_at_call 17; refine known_any.mono ?_; rintro e w9 ⟨rfl, hq9⟩; replace hz := Nat.le_trans hz (hq9).size; replace hU0 := hU0.then hq9 (fun _ _ h => h.elim); clear hq9))
    go_ret
    exact ⟨rfl, HFIN.out _ (HUB.out.then hU0.old (fun _ _ h => h))⟩
  · have g1 : ¬ (100 : Int) < (s.size : Int) := by omega
    have g2 : (60 : Int) < (l.size : Int) := by omega
    go_wp2_with (first
      | (go_at_call 17; refine known_any.mono ?_; rintro e w9 ⟨rfl, hq9⟩; replace hz := Nat.le_trans hz (hq9).size; replace hU0 := hU0.then hq9 (fun _ _ h => h.elim); clear hq9))
    go_ret
    exact ⟨rfl, HFIN.out _ (HUB.out.then hU0.old (fun _ _ h => h))⟩
  · have g1 : ¬ (100 : Int) < (s.size : Int) := by omega
    have g2 : ¬ (60 : Int) < (l.size : Int) := by omega
    have hs0 : s.size ≤ 140737488351232 := by omega
    have hl0 : l.size ≤ 140737488351232 := by omega
    obtain ⟨q, hq⟩ := compiledF_some s.data.toList fold
    have HQ := Lib.hid hq
    clear hq
    go_upto_region 3 with (first
      | (go_at_call 17; refine known_any.mono ?_; rintro e w9 ⟨rfl, hq9⟩; replace hz := Nat.le_trans hz (hq9).size; replace hU0 := hU0.then hq9 (fun _ _ h => h.elim); clear hq9))
    go_upto_region 4 with (first
    | (go_at_call 15; refine (compiled_any s fold q hs0 HQ.out).mono ?_; rintro e w9 ⟨cvP, rfl, hcdP, huP⟩; obtain ⟨caP, ccP, rfl⟩ := hcdP.form; unfold progC; replace hz := Nat.le_trans hz (huP).size; replace hU0 := hU0.then huP (fun _ _ h => h.elim); replace HUB := Lib.hid (HUB.out.then hU0.old (fun _ _ h => h)); have HCP := Lib.hid hcdP.rows; clear hU0 hz hcdP huP; obtain ⟨w, rfl⟩ : ∃ x, x = w9 := ⟨_, rfl⟩; have hU0 := Upd.refl (fun k => w.heap.size ≤ k) w; have hz := Nat.le_refl w.heap.size)
    | ((with_reducible refine stopAl 31 rfl ?_); unfold Stop; refine wpList_alloc_blk rfl 31 rfl (.agg #[.slice none 0 0, .int .i64 0, .bool false]) (by kernel_rfl) #[.slice none 0 0, .int .i64 0, .bool false] rfl ?_; intro bP wn hbn kn hUn hsn; have gP : w.heap.size ≤ bP := Nat.le_trans hU0.size (Nat.le_of_eq hbn); have kP := kn; replace hU0 := hU0.then hUn (fun _ _ h => h.elim); replace hz : w.heap.size ≤ wn.heap.size := (by omega); clear kn hUn hsn hbn; have cP := cells_of kP; (try simp only [progC, zzT, zzO, zzS] at cP); have fP := frees_of kP)
    | ((with_reducible refine stopSt 31 _ _ rfl ?_); unfold Stop; refine wpList_store_blk rfl 31 _ _ rfl _ _ rfl _ (by go_simp; first | done | exact rfl) _ _ _ kP (zzB rfl) (by kernel_rfl) rfl (by simp only [spl, progC, Value.cells, zzT, zzO, zzS, Array.toList]; exact rfl) ?_; intro wn kn hUn hsn; clear cP fP; replace kP := kn; replace hU0 := hU0.then hUn (fun i hi (e : i = _) => by first | exact e | exact absurd hi (by omega) | (subst e; first | assumption | (show _ ≤ _; omega)) | exact .inl e | exact .inr e | exact .inr (.inl e) | exact .inr (.inr e)); replace hz := Nat.le_trans hz (Nat.le_of_eq hsn.symm); clear kn hUn hsn; have cP := cells_of kP; (try simp only [progC, zzT, zzO, zzS] at cP); have fP := frees_of kP))
    by_cases hcl : q.code.length = 0
    · have g4 : ((q.code.length : Int) == 0) = true := by simp [hcl]
      go_wp2
      go_ret
      exact ⟨rfl, HFIN.out _ (HUB.out.then hU0.old (fun _ _ h => h))⟩
    · have g4 : ((q.code.length : Int) == 0) = false := beq_eq_false_iff_ne.mpr (by omega)
      obtain ⟨⟨m1, l1, is1, e1⟩, hr1⟩ := fromF_some q l.data.toList (l.data.toList.length + 2) 0 5000 (fun _ => by omega) (by omega)
      have hsz : l.data.toList.length = l.size := by simp
      have hat := fun he => fromF_at _ _ _ _ hr1 he (Int.le_refl _)
      obtain ⟨D1, hD1⟩ : ∃ D, matchC m1 = D := ⟨_, rfl⟩
      have hl1 := fromF_len _ _ _ _ _ _ hr1
      simp only [hsz] at hl1 hat
      have MD1 : Hid (MD D1) := Lib.hid (by rw [← hD1]; exact md_of hl1)
      have HE1 : ∀ w, (Op.equalIn 10000 24 (.agg D1) (.agg D1)).run Try.prog w = .ok true w := fun w => by rw [← hD1, equal_match w m1 m1 hl1.1 hl1.2 hl1.1 hl1.2]; simp
      have HD1 := Lib.hid hD1
      have HR1 := Lib.hid hr1
      have HAT := Lib.hid hat
      clear hr1 hD1 hl1 hat hsz
      go_upto_region 7 with (first
    | ((with_reducible refine stopLd 31 _ rfl ?_); unfold Stop; refine wpList_load_row rfl 31 _ rfl _ rfl 31 _ (0, 0) _ kP Try.underlying31 rfl (by kernel_rfl) ?_)
    | (go_at_call 20; refine (from_any q caP ccP l 0 5000 (HCP.out.newer hU0) hl0 _ _ HR1.out).mono ?_; rintro e w9 ⟨rfl, hq9⟩; unfold resV; rw [HD1.out]; clear cP fP; replace kP := (hq9).heap kP (fun h => h); replace hz := Nat.le_trans hz (hq9).size; replace hU0 := hU0.then hq9 (fun _ _ h => h.elim); have cP := cells_of kP; (try simp only [progC, zzT, zzO, zzS] at cP); have fP := frees_of kP; clear hq9)
    | ((with_reducible refine stopAl 24 rfl ?_); unfold Stop; refine wpList_alloc_blk rfl 24 rfl (.agg #[.int .i64 0, .int .i64 0, .int .i64 0, .int .i64 0, .int .i64 0, .int .i64 0, .int .i64 0, .int .i64 0, .int .i64 0, .int .i64 0, .int .i64 0, .int .i64 0, .int .i64 0, .int .i64 0, .int .i64 0, .int .i64 0, .int .i64 0, .int .i64 0, .int .i64 0, .int .i64 0, .int .i64 0, .int .i64 0]) (by kernel_rfl) #[.int .i64 0, .int .i64 0, .int .i64 0, .int .i64 0, .int .i64 0, .int .i64 0, .int .i64 0, .int .i64 0, .int .i64 0, .int .i64 0, .int .i64 0, .int .i64 0, .int .i64 0, .int .i64 0, .int .i64 0, .int .i64 0, .int .i64 0, .int .i64 0, .int .i64 0, .int .i64 0, .int .i64 0, .int .i64 0] rfl ?_; intro bX wn hbn kn hUn hsn; clear cP fP; have lPX := heap_lt kP; rw [hbn] at lPX; replace kP := hUn.heap kP (fun h => h); have gX : w.heap.size ≤ bX := Nat.le_trans hU0.size (Nat.le_of_eq hbn); have kX := kn; replace hU0 := hU0.then hUn (fun _ _ h => h.elim); replace hz : w.heap.size ≤ wn.heap.size := (by omega); clear kn hUn hsn hbn; have cX := cells_of kX; (try simp only [progC, zzT, zzO, zzS] at cX); have fX := frees_of kX; have cP := cells_of kP; (try simp only [progC, zzT, zzO, zzS] at cP); have fP := frees_of kP)
    | ((with_reducible refine stopSt 24 _ _ rfl ?_); unfold Stop; refine wpList_store_blk rfl 24 _ _ rfl bX 0 rfl (.agg D1) rfl #[.int .i64 0, .int .i64 0, .int .i64 0, .int .i64 0, .int .i64 0, .int .i64 0, .int .i64 0, .int .i64 0, .int .i64 0, .int .i64 0, .int .i64 0, .int .i64 0, .int .i64 0, .int .i64 0, .int .i64 0, .int .i64 0, .int .i64 0, .int .i64 0, .int .i64 0, .int .i64 0, .int .i64 0, .int .i64 0] D1 _ kX MD1.out.le MD1.out.info MD1.out.ones MD1.out.spl ?_; intro w8 k8 hu8 hs8; clear cX fX; clear cP fP; replace kP := (hu8).heap kP ((by omega)); replace hz := Nat.le_trans hz (hu8).size; replace hU0 := hU0.then hu8 (fun i hi (e : i = bX) => by omega); have cP := cells_of kP; (try simp only [progC, zzT, zzO, zzS] at cP); have fP := frees_of kP; have kXv := k8; clear k8 kX hu8 hs8; have cXv := cells_of kXv; (try simp only [progC, zzT, zzO, zzS] at cXv); have fXv := frees_of kXv))
      clear cXv
      by_cases he : e1 = 0
      · subst he
        have hK : ∃ K : Nat, K ≤ l.size + 1 ∧ (∀ j : Nat, j < K → ∃ r, atF q l.data.toList j 5000 = some r ∧ r.err = 0 ∧ r.is = false) ∧ ((is1 = true ∧ K ≤ l.size ∧ ∃ r, atF q l.data.toList K 5000 = some r ∧ r.err = 0 ∧ r.is = true ∧ r.m = m1) ∨ (is1 = false ∧ K = l.size + 1)) := by
          rcases HAT.out rfl with ⟨g1, k, g2, g3, g4, g5⟩ | ⟨g1, g2⟩
          · refine ⟨k.toNat, by omega, fun j hj => g4 j (by omega) (by omega), .inl ⟨g1, by omega, ?_⟩⟩
            rw [Int.toNat_of_nonneg g2]; exact g5
          · exact ⟨l.size + 1, Nat.le_refl _, fun j hj => g2 j (by omega) (by omega), .inr ⟨g1, rfl⟩⟩
        obtain ⟨K, hK1, hK2, hK3⟩ := hK
        have HK2 := Lib.hid hK2
        have HK3 := Lib.hid hK3
        have HU9 := Lib.hid hU0
        have HKX := Lib.hid (And.intro kXv kP)
        obtain ⟨wS, rfl⟩ : ∃ x, x = w8 := ⟨_, rfl⟩
        have lPX := (heap_lt kP)
        clear hK2 hK3 HAT kXv kP cP fP hU0 hz
        go_wp2_with fail
        go_loopg [12] (l.size + 1) (fun gk iv wr => ∃ j : Nat, iv = .int .i64 (j : Int) ∧ j + gk = l.size + 1 ∧ j ≤ K ∧ Upd (fun _ => False) wS wr)
        case atStart => exact ⟨0, rfl, by omega, Nat.zero_le _, Upd.refl _ _⟩
        case round =>
          obtain ⟨j, rfl, hj, hjK, hW⟩ := hrel
          obtain ⟨kXv, kP⟩ := And.intro (hW.heap HKX.out.1 (fun h => h)) (hW.heap HKX.out.2 (fun h => h))
          have hU0 := HU9.out.then hW (fun _ _ h => h.elim)
          have hz := hU0.size
          have cP := cells_of kP; (try simp only [progC, zzT, zzO, zzS] at cP); have fP := frees_of kP; have cXv := cells_of kXv; (try simp only [progC, zzT, zzO, zzS] at cXv); have fXv := frees_of kXv
          by_cases hlt : j ≤ l.size
          · have gi : (j : Int) ≤ (l.size : Int) := by omega
            by_cases hjk : j < K
            · obtain ⟨⟨mr, lr, isr, er⟩, hr2, he2, hi2⟩ := HK2.out j hjk
              simp only [] at he2 hi2
              subst he2 hi2
              obtain ⟨D2, hD2⟩ : ∃ D, matchC mr = D := ⟨_, rfl⟩
              have hl2 := atF_len hr2
              simp only [] at hl2
              have MD2 : Hid (MD D2) := Lib.hid (by rw [← hD2]; exact md_of hl2)
              have HD2 := Lib.hid hD2
              have HR2 := Lib.hid hr2
              clear hr2 hD2 hl2
              go_wp2_with (first
    | ((with_reducible refine stopLd 31 _ rfl ?_); unfold Stop; refine wpList_load_row rfl 31 _ rfl _ rfl 31 _ (0, 0) _ kP Try.underlying31 rfl (by kernel_rfl) ?_)
    | (go_at_call 14; refine (at_any q caP ccP l j 5000 (HCP.out.newer hU0) hl0 _ HR2.out).mono ?_; rintro e w9 ⟨rfl, hq9⟩; unfold resV; rw [HD2.out]; clear cP fP cXv fXv; replace kP := (hq9).heap kP (fun h => h); replace kXv := (hq9).heap kXv (fun h => h); replace hz := Nat.le_trans hz (hq9).size; replace hU0 := hU0.then hq9 (fun _ _ h => h.elim); have cP := cells_of kP; (try simp only [progC, zzT, zzO, zzS] at cP); have fP := frees_of kP; have cXv := cells_of kXv; (try simp only [progC, zzT, zzO, zzS] at cXv); have fXv := frees_of kXv; replace hW := hW.then hq9 (fun _ _ h => h.elim); clear hq9)
    | ((with_reducible refine stopAl 24 rfl ?_); unfold Stop; refine wpList_alloc_blk rfl 24 rfl (.agg #[.int .i64 0, .int .i64 0, .int .i64 0, .int .i64 0, .int .i64 0, .int .i64 0, .int .i64 0, .int .i64 0, .int .i64 0, .int .i64 0, .int .i64 0, .int .i64 0, .int .i64 0, .int .i64 0, .int .i64 0, .int .i64 0, .int .i64 0, .int .i64 0, .int .i64 0, .int .i64 0, .int .i64 0, .int .i64 0]) (by kernel_rfl) #[.int .i64 0, .int .i64 0, .int .i64 0, .int .i64 0, .int .i64 0, .int .i64 0, .int .i64 0, .int .i64 0, .int .i64 0, .int .i64 0, .int .i64 0, .int .i64 0, .int .i64 0, .int .i64 0, .int .i64 0, .int .i64 0, .int .i64 0, .int .i64 0, .int .i64 0, .int .i64 0, .int .i64 0, .int .i64 0] rfl ?_; intro bY wn hbn kn hUn hsn; clear cP fP cXv fXv; have lPY := heap_lt kP; rw [hbn] at lPY; replace kP := hUn.heap kP (fun h => h); have lXvY := heap_lt kXv; rw [hbn] at lXvY; replace kXv := hUn.heap kXv (fun h => h); have gY : w.heap.size ≤ bY := Nat.le_trans hU0.size (Nat.le_of_eq hbn); have kY := kn; replace hU0 := hU0.then hUn (fun _ _ h => h.elim); replace hz : w.heap.size ≤ wn.heap.size := (by omega); have lrY : wS.heap.size ≤ bY := (by have := hW.size; omega); replace hW := hW.then hUn (fun _ _ h => h.elim); clear kn hUn hsn hbn; have cY := cells_of kY; (try simp only [progC, zzT, zzO, zzS] at cY); have fY := frees_of kY; have cP := cells_of kP; (try simp only [progC, zzT, zzO, zzS] at cP); have fP := frees_of kP; have cXv := cells_of kXv; (try simp only [progC, zzT, zzO, zzS] at cXv); have fXv := frees_of kXv)
    | ((with_reducible refine stopSt 24 _ _ rfl ?_); unfold Stop; refine wpList_store_blk rfl 24 _ _ rfl bY 0 rfl (.agg D2) rfl #[.int .i64 0, .int .i64 0, .int .i64 0, .int .i64 0, .int .i64 0, .int .i64 0, .int .i64 0, .int .i64 0, .int .i64 0, .int .i64 0, .int .i64 0, .int .i64 0, .int .i64 0, .int .i64 0, .int .i64 0, .int .i64 0, .int .i64 0, .int .i64 0, .int .i64 0, .int .i64 0, .int .i64 0, .int .i64 0] D2 _ kY MD2.out.le MD2.out.info MD2.out.ones MD2.out.spl ?_; intro w8 k8 hu8 hs8; clear cY fY; clear cP fP cXv fXv; replace kP := (hu8).heap kP ((by omega)); replace kXv := (hu8).heap kXv ((by omega)); replace hz := Nat.le_trans hz (hu8).size; replace hU0 := hU0.then hu8 (fun i hi (e : i = bY) => by omega); have cP := cells_of kP; (try simp only [progC, zzT, zzO, zzS] at cP); have fP := frees_of kP; have cXv := cells_of kXv; (try simp only [progC, zzT, zzO, zzS] at cXv); have fXv := frees_of kXv; have kYv := k8; replace hW := hW.then hu8 (fun i hi (e : i = bY) => by omega); clear k8 kY hu8 hs8; have cYv := cells_of kYv; (try simp only [progC, zzT, zzO, zzS] at cYv); have fYv := frees_of kYv)
    | ((with_reducible refine stopLd 24 _ rfl ?_); unfold Stop; refine wpList_want (by rfl) (fun K9 hK9 => ?_); refine wp_load_blk 24 _ rfl bX 0 rfl D1 D1 _ (0, 0) _ kXv Try.underlying24 rfl (by simp) MD1.out.info ?_; refine hK9 _ _ ?_; clear hK9 K9)
    | ((with_reducible refine stopLd 24 _ rfl ?_); unfold Stop; refine wpList_want (by rfl) (fun K9 hK9 => ?_); refine wp_load_blk 24 _ rfl bY 0 rfl D2 D2 _ (0, 0) _ kYv Try.underlying24 rfl (by simp) MD2.out.info ?_; refine hK9 _ _ ?_; clear hK9 K9))
              go_roundg (gk - 1)
              case measure => omega
              case rel => exact ⟨j + 1, by go_num, by omega, by omega, hW⟩
            · rcases HK3.out with ⟨rfl, hKl, ⟨mr, lr, isr, er⟩, hr2, he2, hi2, hm2⟩ | ⟨_, hKl⟩
              · obtain rfl : j = K := by omega
                simp only [] at he2 hi2 hm2
                subst he2 hi2 hm2
                obtain ⟨D2, hD2⟩ : ∃ D, D1 = D := ⟨_, rfl⟩
                have MD2 : Hid (MD D2) := Lib.hid (by rw [← hD2]; exact MD1.out)
                have HD2 : Hid (matchC mr = D2) := Lib.hid (by rw [← hD2]; exact HD1.out)
                have HE2 : ∀ w, (Op.equalIn 10000 24 (.agg D1) (.agg D2)).run Try.prog w = .ok true w := fun w => by rw [← hD2]; exact HE1 w
                have HR2 := Lib.hid hr2
                clear hr2 hD2 HE1
                go_wp2_with (first
    | ((with_reducible refine stopLd 31 _ rfl ?_); unfold Stop; refine wpList_load_row rfl 31 _ rfl _ rfl 31 _ (0, 0) _ kP Try.underlying31 rfl (by kernel_rfl) ?_)
    | (go_at_call 14; refine (at_any q caP ccP l j 5000 (HCP.out.newer hU0) hl0 _ HR2.out).mono ?_; rintro e w9 ⟨rfl, hq9⟩; unfold resV; rw [HD2.out]; clear cP fP cXv fXv; replace kP := (hq9).heap kP (fun h => h); replace kXv := (hq9).heap kXv (fun h => h); replace hz := Nat.le_trans hz (hq9).size; replace hU0 := hU0.then hq9 (fun _ _ h => h.elim); have cP := cells_of kP; (try simp only [progC, zzT, zzO, zzS] at cP); have fP := frees_of kP; have cXv := cells_of kXv; (try simp only [progC, zzT, zzO, zzS] at cXv); have fXv := frees_of kXv; replace hW := hW.then hq9 (fun _ _ h => h.elim); clear hq9)
    | ((with_reducible refine stopAl 24 rfl ?_); unfold Stop; refine wpList_alloc_blk rfl 24 rfl (.agg #[.int .i64 0, .int .i64 0, .int .i64 0, .int .i64 0, .int .i64 0, .int .i64 0, .int .i64 0, .int .i64 0, .int .i64 0, .int .i64 0, .int .i64 0, .int .i64 0, .int .i64 0, .int .i64 0, .int .i64 0, .int .i64 0, .int .i64 0, .int .i64 0, .int .i64 0, .int .i64 0, .int .i64 0, .int .i64 0]) (by kernel_rfl) #[.int .i64 0, .int .i64 0, .int .i64 0, .int .i64 0, .int .i64 0, .int .i64 0, .int .i64 0, .int .i64 0, .int .i64 0, .int .i64 0, .int .i64 0, .int .i64 0, .int .i64 0, .int .i64 0, .int .i64 0, .int .i64 0, .int .i64 0, .int .i64 0, .int .i64 0, .int .i64 0, .int .i64 0, .int .i64 0] rfl ?_; intro bY wn hbn kn hUn hsn; clear cP fP cXv fXv; have lPY := heap_lt kP; rw [hbn] at lPY; replace kP := hUn.heap kP (fun h => h); have lXvY := heap_lt kXv; rw [hbn] at lXvY; replace kXv := hUn.heap kXv (fun h => h); have gY : w.heap.size ≤ bY := Nat.le_trans hU0.size (Nat.le_of_eq hbn); have kY := kn; replace hU0 := hU0.then hUn (fun _ _ h => h.elim); replace hz : w.heap.size ≤ wn.heap.size := (by omega); have lrY : wS.heap.size ≤ bY := (by have := hW.size; omega); replace hW := hW.then hUn (fun _ _ h => h.elim); clear kn hUn hsn hbn; have cY := cells_of kY; (try simp only [progC, zzT, zzO, zzS] at cY); have fY := frees_of kY; have cP := cells_of kP; (try simp only [progC, zzT, zzO, zzS] at cP); have fP := frees_of kP; have cXv := cells_of kXv; (try simp only [progC, zzT, zzO, zzS] at cXv); have fXv := frees_of kXv)
    | ((with_reducible refine stopSt 24 _ _ rfl ?_); unfold Stop; refine wpList_store_blk rfl 24 _ _ rfl bY 0 rfl (.agg D2) rfl #[.int .i64 0, .int .i64 0, .int .i64 0, .int .i64 0, .int .i64 0, .int .i64 0, .int .i64 0, .int .i64 0, .int .i64 0, .int .i64 0, .int .i64 0, .int .i64 0, .int .i64 0, .int .i64 0, .int .i64 0, .int .i64 0, .int .i64 0, .int .i64 0, .int .i64 0, .int .i64 0, .int .i64 0, .int .i64 0] D2 _ kY MD2.out.le MD2.out.info MD2.out.ones MD2.out.spl ?_; intro w8 k8 hu8 hs8; clear cY fY; clear cP fP cXv fXv; replace kP := (hu8).heap kP ((by omega)); replace kXv := (hu8).heap kXv ((by omega)); replace hz := Nat.le_trans hz (hu8).size; replace hU0 := hU0.then hu8 (fun i hi (e : i = bY) => by omega); have cP := cells_of kP; (try simp only [progC, zzT, zzO, zzS] at cP); have fP := frees_of kP; have cXv := cells_of kXv; (try simp only [progC, zzT, zzO, zzS] at cXv); have fXv := frees_of kXv; have kYv := k8; replace hW := hW.then hu8 (fun i hi (e : i = bY) => by omega); clear k8 kY hu8 hs8; have cYv := cells_of kYv; (try simp only [progC, zzT, zzO, zzS] at cYv); have fYv := frees_of kYv)
    | ((with_reducible refine stopLd 24 _ rfl ?_); unfold Stop; refine wpList_want (by rfl) (fun K9 hK9 => ?_); refine wp_load_blk 24 _ rfl bX 0 rfl D1 D1 _ (0, 0) _ kXv Try.underlying24 rfl (by simp) MD1.out.info ?_; refine hK9 _ _ ?_; clear hK9 K9)
    | ((with_reducible refine stopLd 24 _ rfl ?_); unfold Stop; refine wpList_want (by rfl) (fun K9 hK9 => ?_); refine wp_load_blk 24 _ rfl bY 0 rfl D2 D2 _ (0, 0) _ kYv Try.underlying24 rfl (by simp) MD2.out.info ?_; refine hK9 _ _ ?_; clear hK9 K9))
                go_ret
                exact ⟨rfl, HFIN.out _ (HUB.out.then hU0.old (fun _ _ h => h))⟩
              · omega
          · have gi : ¬ (j : Int) ≤ (l.size : Int) := by omega
            rcases HK3.out with ⟨_, hKl, _⟩ | ⟨rfl, hKl⟩
            · omega
            · go_wp2_with fail
              go_ret
              exact ⟨rfl, HFIN.out _ (HUB.out.then hU0.old (fun _ _ h => h))⟩
      · have q0 : (e1 != 0) = true := by simpa using he
        go_wp2
        go_ret
        exact ⟨rfl, HFIN.out _ (HUB.out.then hU0.old (fun _ _ h => h))⟩
end Go.Proofs.Ytigbfgmgdfnhcaa
