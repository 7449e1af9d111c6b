/- The walk of the law MatchFolds. (Printed by tools/foldgen.py.) -/
import Derived.Test.YtigbfgmgdfnhcaaWf
import Derived.Test.YtigbfgmgdfnhcaaBaseA0
set_option linter.all false
set_option linter.unusedVariables false
set_option linter.unusedSimpArgs false
namespace Go.Proofs.Ytigbfgmgdfnhcaa
open Go.RowKit

theorem list_size {s : List UInt8} {o : ByteArray} (h : o.data.toList = s) : o.size = s.length := by rw [← h]; simp
set_option maxRecDepth 100000 in
set_option maxHeartbeats 8000000 in
theorem folds_law (s : ByteArray) (hs : s.size ≤ maxLen) (l : ByteArray) (hl : l.size ≤ maxLen) (W : World) :
    Calls Try.prog 9 #[.string s, .string l] W fun e w' => e = .returned (.bool true) ∧ Below W.heap.size W w' := by
  have HFIN : Hid (∀ w', Upd (fun _ => False) W w' → Below W.heap.size W w') := Lib.hid (fun w' h => h.below (Nat.le_refl _) (fun _ _ h => h))
  have HUB := Lib.hid (Upd.refl (fun _ => False) W)
  obtain ⟨w, rfl⟩ : ∃ w, w = W := ⟨_, rfl⟩
  have hU0 := Upd.refl (fun k => w.heap.size ≤ k) w
  have hz := Nat.le_refl w.heap.size
  clear hs hl
  go_enter Try.func9, Try.ntmps9
  rcases (show 20 < s.size ∨ (¬ 20 < s.size ∧ 40 < l.size) ∨ (¬ 20 < s.size ∧ ¬ 40 < l.size) by omega) with h1 | ⟨h1, h2⟩ | ⟨h1, h2⟩
  · have g1 : (20 : Int) < (s.size : Int) := by omega
    go_wp2_with (first
      | (go_at_call 17; refine known_any.mono ?_; rintro e w9 ⟨rfl, hq9⟩; replace hz := Nat.le_trans hz (hq9).size; replace hU0 := hU0.then hq9 (fun _ _ h => h.elim); clear hq9))
    go_ret
    exact ⟨rfl, HFIN.out _ (HUB.out.then hU0.old (fun _ _ h => h))⟩
  · have g1 : ¬ (20 : Int) < (s.size : Int) := by omega
    have g2 : (40 : Int) < (l.size : Int) := by omega
    go_wp2_with (first
      | (go_at_call 17; refine known_any.mono ?_; rintro e w9 ⟨rfl, hq9⟩; replace hz := Nat.le_trans hz (hq9).size; replace hU0 := hU0.then hq9 (fun _ _ h => h.elim); clear hq9))
    go_ret
    exact ⟨rfl, HFIN.out _ (HUB.out.then hU0.old (fun _ _ h => h))⟩
  · have g1 : ¬ (20 : Int) < (s.size : Int) := by omega
    have g2 : ¬ (40 : Int) < (l.size : Int) := by omega
    have hs0 : s.size ≤ 20 := by omega
    have hl1 : l.size ≤ 40 := by omega
    have hl0 : l.size ≤ 140737488351232 := by omega
    have hss : s.data.toList.length = s.size := by simp
    have hls : l.data.toList.length = l.size := by simp
    obtain ⟨m1, l1, l2, is1, hr1, hr2⟩ := from_small s.data.toList l.data.toList (by omega) (by omega)
    rw [hls] at hr1
    have hq1 := comp_word s.data.toList (by omega) true
    have hq2 := comp_word (smallL s.data.toList) (by rw [small_len]; omega) false
    obtain ⟨q1, hqq1⟩ : ∃ q, qWord s.data.toList true = q := ⟨_, rfl⟩
    obtain ⟨q2, hqq2⟩ : ∃ q, qWord (smallL s.data.toList) false = q := ⟨_, rfl⟩
    rw [hqq1] at hr1 hq1
    rw [hqq2] at hr2 hq2
    clear hqq1 hqq2
    obtain ⟨D1, hD1⟩ : ∃ D, matchC m1 = D := ⟨_, rfl⟩
    have hm1 := fromF_len _ _ _ _ _ _ hr1
    simp only [] at hm1
    have MD1 : Hid (MD D1) := Lib.hid (by rw [← hD1]; exact md_of hm1)
    have HE1 : ∀ w, (Op.equalIn 10000 24 (.agg D1) (.agg D1)).run Try.prog w = .ok true w := fun w => by rw [← hD1, equal_match w m1 m1 hm1.1 hm1.2 hm1.1 hm1.2]; simp
    have HD1 := Lib.hid hD1
    have HR1 := Lib.hid hr1
    have HR2 : Hid (∀ o : ByteArray, o.data.toList = smallL l.data.toList → fromF q2 o.data.toList (o.size + 2) 0 5000 = some ⟨m1, l2, is1, 0⟩) := Lib.hid (fun o ho => by rw [list_size ho, ho]; exact hr2)
    have HQ1 : Hid (∀ o : ByteArray, o.data.toList = wordL s.data.toList → compiledF o.data.toList true = some q1 ∧ o.size ≤ 140737488351232) := Lib.hid (fun o ho => ⟨by rw [ho]; exact hq1, word_size ho (by omega)⟩)
    have HQ2 : Hid (∀ o : ByteArray, o.data.toList = wordL (smallL s.data.toList) → compiledF o.data.toList false = some q2 ∧ o.size ≤ 140737488351232) := Lib.hid (fun o ho => ⟨by rw [ho]; exact hq2, word_size ho (by rw [small_len]; omega)⟩)
    have HSS := Lib.hid hss
    have HLS := Lib.hid hls
    clear hr1 hr2 hD1 hm1 hq1 hq2 hss hls
    have tokp1 : True := trivial
    have tokp2 : True := trivial
    have tokp3 : True := trivial
    have tokp4 : True := trivial
    go_upto_region 3 with (first
      | (go_at_call 17; refine known_any.mono ?_; rintro e w9 ⟨rfl, hq9⟩; replace hz := Nat.le_trans hz (hq9).size; replace hU0 := hU0.then hq9 (fun _ _ h => h.elim); clear hq9))
    go_upto_region 4 with (first
    | (go_at_call 22; have _t := tokp1; refine (lword_any s (by omega) _).mono ?_; rintro e w9 ⟨p1, rfl, ho, rfl⟩; have O1 := Lib.hid ho; clear ho tokp1)
    | (go_at_call 15; refine (compiled_any p1 true q1 (HQ1.out _ O1.out).2 (HQ1.out _ O1.out).1).mono ?_; rintro e w9 ⟨cvP, rfl, hcdP, huP⟩; obtain ⟨caP, ccP, rfl⟩ := hcdP.form; unfold progC; replace hz := Nat.le_trans hz (huP).size; replace hU0 := hU0.then huP (fun _ _ h => h.elim); replace HUB := Lib.hid (HUB.out.then hU0.old (fun _ _ h => h)); have HCP := Lib.hid hcdP.rows; clear hU0 hz hcdP huP; obtain ⟨w, rfl⟩ : ∃ x, x = w9 := ⟨_, rfl⟩; have hU0 := Upd.refl (fun k => w.heap.size ≤ k) w; have hz := Nat.le_refl w.heap.size)
    | (go_at_call 20; refine (from_any q1 caP ccP l 0 5000 (HCP.out.newer hU0) hl0 _ _ HR1.out).mono ?_; rintro e w9 ⟨rfl, hq9⟩; unfold resV; rw [HD1.out]; replace hz := Nat.le_trans hz (hq9).size; replace hU0 := hU0.then hq9 (fun _ _ h => h.elim); clear hq9)
    | ((with_reducible refine stopAl 24 rfl ?_); unfold Stop; refine wpList_alloc_blk rfl 24 rfl (.agg #[.int .i64 0, .int .i64 0, .int .i64 0, .int .i64 0, .int .i64 0, .int .i64 0, .int .i64 0, .int .i64 0, .int .i64 0, .int .i64 0, .int .i64 0, .int .i64 0, .int .i64 0, .int .i64 0, .int .i64 0, .int .i64 0, .int .i64 0, .int .i64 0, .int .i64 0, .int .i64 0, .int .i64 0, .int .i64 0]) (by kernel_rfl) #[.int .i64 0, .int .i64 0, .int .i64 0, .int .i64 0, .int .i64 0, .int .i64 0, .int .i64 0, .int .i64 0, .int .i64 0, .int .i64 0, .int .i64 0, .int .i64 0, .int .i64 0, .int .i64 0, .int .i64 0, .int .i64 0, .int .i64 0, .int .i64 0, .int .i64 0, .int .i64 0, .int .i64 0, .int .i64 0] rfl ?_; intro bX wn hbn kn hUn hsn; have gX : w.heap.size ≤ bX := Nat.le_trans hU0.size (Nat.le_of_eq hbn); have kX := kn; replace hU0 := hU0.then hUn (fun _ _ h => h.elim); replace hz : w.heap.size ≤ wn.heap.size := (by omega); clear kn hUn hsn hbn; have cX := cells_of kX; (try simp only [progC, zzT, zzO, zzS] at cX); have fX := frees_of kX)
    | ((with_reducible refine stopSt 24 _ _ rfl ?_); unfold Stop; refine wpList_store_blk rfl 24 _ _ rfl bX 0 rfl (.agg D1) rfl #[.int .i64 0, .int .i64 0, .int .i64 0, .int .i64 0, .int .i64 0, .int .i64 0, .int .i64 0, .int .i64 0, .int .i64 0, .int .i64 0, .int .i64 0, .int .i64 0, .int .i64 0, .int .i64 0, .int .i64 0, .int .i64 0, .int .i64 0, .int .i64 0, .int .i64 0, .int .i64 0, .int .i64 0, .int .i64 0] D1 _ kX MD1.out.le MD1.out.info MD1.out.ones MD1.out.spl ?_; intro w8 k8 hu8 hs8; clear cX fX; replace hz := Nat.le_trans hz (hu8).size; replace hU0 := hU0.then hu8 (fun i hi (e : i = bX) => by omega); have kXv := k8; clear k8 kX hu8 hs8; have cXv := cells_of kXv; (try simp only [progC, zzT, zzO, zzS] at cXv); have fXv := frees_of kXv))
    go_upto_region 5 with (first
    | (go_at_call 23; have _t := tokp2; refine (lsmall_any s (by omega) _).mono ?_; rintro e w9 ⟨p2, rfl, ho, hq9⟩; have O2 := Lib.hid ho; clear cXv fXv; replace kXv := (hq9).heap kXv (fun h => h); replace hz := Nat.le_trans hz (hq9).size; replace hU0 := hU0.then hq9 (fun _ _ h => h.elim); have cXv := cells_of kXv; (try simp only [progC, zzT, zzO, zzS] at cXv); have fXv := frees_of kXv; clear ho hq9 tokp2)
    | (go_at_call 22; have _t := tokp3; refine (lword_any p2 (by have := HSS.out; rw [list_size O2.out, small_len]; omega) _).mono ?_; rintro e w9 ⟨p3, rfl, ho, rfl⟩; have O3 := Lib.hid ho; clear ho tokp3)
    | (go_at_call 15; refine (compiled_any p3 false q2 (HQ2.out _ (by rw [O3.out, O2.out])).2 (HQ2.out _ (by rw [O3.out, O2.out])).1).mono ?_; rintro e w9 ⟨cvQ, rfl, hcdQ, huQ⟩; obtain ⟨caQ, ccQ, rfl⟩ := hcdQ.form; unfold progC; clear cXv fXv; replace kXv := (huQ).heap kXv (fun h => h); replace hz := Nat.le_trans hz (huQ).size; replace hU0 := hU0.then huQ (fun _ _ h => h.elim); have cXv := cells_of kXv; (try simp only [progC, zzT, zzO, zzS] at cXv); have fXv := frees_of kXv; replace HUB := Lib.hid (HUB.out.then hU0.old (fun _ _ h => h)); have HCQ := Lib.hid hcdQ.rows; clear hU0 hz hcdQ huQ; obtain ⟨w, rfl⟩ : ∃ x, x = w9 := ⟨_, rfl⟩; have hU0 := Upd.refl (fun k => w.heap.size ≤ k) w; have hz := Nat.le_refl w.heap.size)
    | (go_at_call 23; have _t := tokp4; refine (lsmall_any l (by omega) _).mono ?_; rintro e w9 ⟨p4, rfl, ho, hq9⟩; have O4 := Lib.hid ho; clear cXv fXv; replace kXv := (hq9).heap kXv (fun h => h); replace hz := Nat.le_trans hz (hq9).size; replace hU0 := hU0.then hq9 (fun _ _ h => h.elim); have cXv := cells_of kXv; (try simp only [progC, zzT, zzO, zzS] at cXv); have fXv := frees_of kXv; clear ho hq9 tokp4)
    | (go_at_call 20; refine (from_any q2 caQ ccQ p4 0 5000 (HCQ.out.newer hU0) (by have := HLS.out; rw [list_size O4.out, small_len]; omega) _ _ (HR2.out _ O4.out)).mono ?_; rintro e w9 ⟨rfl, hq9⟩; unfold resV; rw [HD1.out]; clear cXv fXv; replace kXv := (hq9).heap kXv (fun h => h); replace hz := Nat.le_trans hz (hq9).size; replace hU0 := hU0.then hq9 (fun _ _ h => h.elim); have cXv := cells_of kXv; (try simp only [progC, zzT, zzO, zzS] at cXv); have fXv := frees_of kXv; clear hq9)
    | ((with_reducible refine stopAl 24 rfl ?_); unfold Stop; refine wpList_alloc_blk rfl 24 rfl (.agg #[.int .i64 0, .int .i64 0, .int .i64 0, .int .i64 0, .int .i64 0, .int .i64 0, .int .i64 0, .int .i64 0, .int .i64 0, .int .i64 0, .int .i64 0, .int .i64 0, .int .i64 0, .int .i64 0, .int .i64 0, .int .i64 0, .int .i64 0, .int .i64 0, .int .i64 0, .int .i64 0, .int .i64 0, .int .i64 0]) (by kernel_rfl) #[.int .i64 0, .int .i64 0, .int .i64 0, .int .i64 0, .int .i64 0, .int .i64 0, .int .i64 0, .int .i64 0, .int .i64 0, .int .i64 0, .int .i64 0, .int .i64 0, .int .i64 0, .int .i64 0, .int .i64 0, .int .i64 0, .int .i64 0, .int .i64 0, .int .i64 0, .int .i64 0, .int .i64 0, .int .i64 0] rfl ?_; intro bY wn hbn kn hUn hsn; clear cXv fXv; have lXvY := heap_lt kXv; rw [hbn] at lXvY; replace kXv := hUn.heap kXv (fun h => h); have gY : w.heap.size ≤ bY := Nat.le_trans hU0.size (Nat.le_of_eq hbn); have kY := kn; replace hU0 := hU0.then hUn (fun _ _ h => h.elim); replace hz : w.heap.size ≤ wn.heap.size := (by omega); clear kn hUn hsn hbn; have cY := cells_of kY; (try simp only [progC, zzT, zzO, zzS] at cY); have fY := frees_of kY; have cXv := cells_of kXv; (try simp only [progC, zzT, zzO, zzS] at cXv); have fXv := frees_of kXv)
    | ((with_reducible refine stopSt 24 _ _ rfl ?_); unfold Stop; refine wpList_store_blk rfl 24 _ _ rfl bY 0 rfl (.agg D1) rfl #[.int .i64 0, .int .i64 0, .int .i64 0, .int .i64 0, .int .i64 0, .int .i64 0, .int .i64 0, .int .i64 0, .int .i64 0, .int .i64 0, .int .i64 0, .int .i64 0, .int .i64 0, .int .i64 0, .int .i64 0, .int .i64 0, .int .i64 0, .int .i64 0, .int .i64 0, .int .i64 0, .int .i64 0, .int .i64 0] D1 _ kY MD1.out.le MD1.out.info MD1.out.ones MD1.out.spl ?_; intro w8 k8 hu8 hs8; clear cY fY; clear cXv fXv; replace kXv := (hu8).heap kXv ((by omega)); replace hz := Nat.le_trans hz (hu8).size; replace hU0 := hU0.then hu8 (fun i hi (e : i = bY) => by omega); have cXv := cells_of kXv; (try simp only [progC, zzT, zzO, zzS] at cXv); have fXv := frees_of kXv; have kYv := k8; clear k8 kY hu8 hs8; have cYv := cells_of kYv; (try simp only [progC, zzT, zzO, zzS] at cYv); have fYv := frees_of kYv))
    cases is1
    all_goals
      clear cXv cYv
      go_wp2_with (first
        | ((with_reducible refine stopLd 24 _ rfl ?_); unfold Stop; refine wpList_want (by rfl) (fun K9 hK9 => ?_); refine wp_load_blk 24 _ rfl bX 0 rfl D1 D1 _ (0, 0) _ kXv Try.underlying24 rfl (by simp) MD1.out.info ?_; refine hK9 _ _ ?_; clear hK9 K9)
        | ((with_reducible refine stopLd 24 _ rfl ?_); unfold Stop; refine wpList_want (by rfl) (fun K9 hK9 => ?_); refine wp_load_blk 24 _ rfl bY 0 rfl D1 D1 _ (0, 0) _ kYv Try.underlying24 rfl (by simp) MD1.out.info ?_; refine hK9 _ _ ?_; clear hK9 K9))
      go_ret
      exact ⟨rfl, HFIN.out _ (HUB.out.then hU0.old (fun _ _ h => h))⟩
end Go.Proofs.Ytigbfgmgdfnhcaa
