/- The walk of the law MatchBounds. (Printed by tools/bndgen.py.) -/
import Derived.Test.YtigbfgmgdfnhcaaBaseA41
import Derived.Test.YtigbfgmgdfnhcaaBaseA42
import Derived.Test.YtigbfgmgdfnhcaaBaseCompSome
import Derived.Test.YtigbfgmgdfnhcaaBaseA0
set_option linter.all false
set_option linter.unusedVariables false
set_option linter.unusedSimpArgs false
namespace Go.Proofs.Ytigbfgmgdfnhcaa
open Go.RowKit

set_option maxRecDepth 100000 in
set_option maxHeartbeats 8000000 in
theorem bounds_law (s : ByteArray) (hs : s.size ≤ maxLen) (fold : Bool) (l : ByteArray) (hl : l.size ≤ maxLen) (a : Int) (a1 : -9223372036854775808 ≤ a) (a2 : a ≤ 9223372036854775807) (st : Int) (s1 : -9223372036854775808 ≤ st) (s2 : st ≤ 9223372036854775807) (mo : Int) (o1 : -9223372036854775808 ≤ mo) (o2 : mo ≤ 9223372036854775807) (W : World) :
    Calls Try.prog 11 #[.string s, .bool fold, .string l, .int .i64 a, .int .i64 st, .int .i64 mo] W fun e w' => e = .returned (.bool true) ∧ Below W.heap.size W w' := by
  have HFIN : Hid (∀ w', Upd (fun _ => False) W w' → Below W.heap.size W w') := Lib.hid (fun w' h => h.below (Nat.le_refl _) (fun _ _ h => h))
  have HUB := Lib.hid (Upd.refl (fun _ => False) W)
  obtain ⟨w, rfl⟩ : ∃ w, w = W := ⟨_, rfl⟩
  have hU0 := Upd.refl (fun k => w.heap.size ≤ k) w
  have hz := Nat.le_refl w.heap.size
  clear hs hl
  go_enter Try.func11, Try.ntmps11
  rcases (show 100 < s.size ∨ (¬ 100 < s.size ∧ 200 < l.size) ∨ (¬ 100 < s.size ∧ ¬ 200 < l.size) by omega) with h1 | ⟨h1, h2⟩ | ⟨h1, h2⟩
  · have g1 : (100 : Int) < (s.size : Int) := by omega
    go_wp2_with (first
      | (go_at_call 17; refine known_any.mono ?_; rintro e w9 ⟨rfl, hq9⟩; replace hz := Nat.le_trans hz (hq9).size; replace hU0 := hU0.then hq9 (fun _ _ h => h.elim); clear hq9))
    go_ret
    exact ⟨rfl, HFIN.out _ (HUB.out.then hU0.old (fun _ _ h => h))⟩
  · have g1 : ¬ (100 : Int) < (s.size : Int) := by omega
    have g2 : (200 : Int) < (l.size : Int) := by omega
    go_wp2_with (first
      | (go_at_call 17; refine known_any.mono ?_; rintro e w9 ⟨rfl, hq9⟩; replace hz := Nat.le_trans hz (hq9).size; replace hU0 := hU0.then hq9 (fun _ _ h => h.elim); clear hq9))
    go_ret
    exact ⟨rfl, HFIN.out _ (HUB.out.then hU0.old (fun _ _ h => h))⟩
  · have g1 : ¬ (100 : Int) < (s.size : Int) := by omega
    have g2 : ¬ (200 : Int) < (l.size : Int) := by omega
    have hs0 : s.size ≤ 140737488351232 := by omega
    have hl0 : l.size ≤ 140737488351232 := by omega
    obtain ⟨q, hq⟩ := compiledF_some s.data.toList fold
    have HQ := Lib.hid hq
    clear hq
    go_upto_region 3 with (first
      | (go_at_call 17; refine known_any.mono ?_; rintro e w9 ⟨rfl, hq9⟩; replace hz := Nat.le_trans hz (hq9).size; replace hU0 := hU0.then hq9 (fun _ _ h => h.elim); clear hq9))
    go_upto_region 4 with (first
    | (go_at_call 15; refine (compiled_any s fold q hs0 HQ.out).mono ?_; rintro e w9 ⟨cvP, rfl, hcdP, huP⟩; obtain ⟨caP, ccP, rfl⟩ := hcdP.form; unfold progC; replace hz := Nat.le_trans hz (huP).size; replace hU0 := hU0.then huP (fun _ _ h => h.elim); replace HUB := Lib.hid (HUB.out.then hU0.old (fun _ _ h => h)); have HCP := Lib.hid hcdP.rows; clear hU0 hz hcdP huP; obtain ⟨w, rfl⟩ : ∃ x, x = w9 := ⟨_, rfl⟩; have hU0 := Upd.refl (fun k => w.heap.size ≤ k) w; have hz := Nat.le_refl w.heap.size)
    | ((with_reducible refine stopAl 31 rfl ?_); unfold Stop; refine wpList_alloc_blk rfl 31 rfl (.agg #[.slice none 0 0, .int .i64 0, .bool false]) (by kernel_rfl) #[.slice none 0 0, .int .i64 0, .bool false] rfl ?_; intro bP wn hbn kn hUn hsn; have gP : w.heap.size ≤ bP := Nat.le_trans hU0.size (Nat.le_of_eq hbn); have kP := kn; replace hU0 := hU0.then hUn (fun _ _ h => h.elim); replace hz : w.heap.size ≤ wn.heap.size := (by omega); clear kn hUn hsn hbn; have cP := cells_of kP; (try simp only [progC, zzT, zzO, zzS] at cP); have fP := frees_of kP)
    | ((with_reducible refine stopSt 31 _ _ rfl ?_); unfold Stop; refine wpList_store_blk rfl 31 _ _ rfl _ _ rfl _ (by go_simp; first | done | exact rfl) _ _ _ kP (zzB rfl) (by kernel_rfl) rfl (by simp only [spl, progC, Value.cells, zzT, zzO, zzS, Array.toList]; exact rfl) ?_; intro wn kn hUn hsn; clear cP fP; replace kP := kn; replace hU0 := hU0.then hUn (fun i hi (e : i = _) => by first | exact e | exact absurd hi (by omega) | (subst e; first | assumption | (show _ ≤ _; omega)) | exact .inl e | exact .inr e | exact .inr (.inl e) | exact .inr (.inr e)); replace hz := Nat.le_trans hz (Nat.le_of_eq hsn.symm); clear kn hUn hsn; have cP := cells_of kP; (try simp only [progC, zzT, zzO, zzS] at cP); have fP := frees_of kP))
    by_cases hcl : q.code.length = 0
    · have g4 : ((q.code.length : Int) == 0) = true := by simp [hcl]
      go_wp2
      go_ret
      exact ⟨rfl, HFIN.out _ (HUB.out.then hU0.old (fun _ _ h => h))⟩
    · have g4 : ((q.code.length : Int) == 0) = false := beq_eq_false_iff_ne.mpr (by omega)
      obtain ⟨k, hk⟩ : ∃ k : Nat, max a 0 % ((l.size : Int) + 1) = (k : Int) := ⟨(max a 0 % ((l.size : Int) + 1)).toNat, by have := Int.emod_nonneg (max a 0) (show ((l.size : Int) + 1) ≠ 0 by omega); omega⟩
      have hkl : k ≤ l.size := by have := Int.emod_lt_of_pos (max a 0) (show (0 : Int) < (l.size : Int) + 1 by omega); omega
      obtain ⟨n, hn⟩ : ∃ n : Nat, max st 0 % 2001 = (n : Int) := ⟨(max st 0 % 2001).toNat, by omega⟩
      have hn2 : n ≤ 2000 := by omega
      obtain ⟨d, hd⟩ : ∃ d : Nat, max mo 0 % 3000 = (d : Int) := ⟨(max mo 0 % 3000).toNat, by omega⟩
      have hd2 : d < 3000 := by omega
      obtain ⟨⟨m1, l1, is1, e1⟩, hr1⟩ := fromF_some q l.data.toList (((l.data.toList.length : Int) - k).toNat + 2) k n (fun _ => by omega) (by omega)
      obtain ⟨⟨m2, l2, is2, e2⟩, hr2⟩ := fromF_some q l.data.toList (((l.data.toList.length : Int) - k).toNat + 2) k ((n : Int) + d) (fun _ => by omega) (by omega)
      have hsz : l.data.toList.length = l.size := by simp
      have hout := fromF_out hr1 (by omega) (by omega) (by omega)
      have hmore : e1 = 0 → m2 = m1 ∧ l2 = l1 + d ∧ is2 = is1 ∧ e2 = 0 := fun h => by
        have h3 := fromF_more d _ _ _ _ hr1 h (by omega)
        rw [hr2] at h3
        simp only [ResD.more, Option.some.injEq, ResD.mk.injEq] at h3
        exact ⟨h3.1, h3.2.1, h3.2.2.1, h3.2.2.2.trans h⟩
      obtain ⟨D1, hD1⟩ : ∃ D, matchC m1 = D := ⟨_, rfl⟩
      obtain ⟨D2, hD2⟩ : ∃ D, matchC m2 = D := ⟨_, rfl⟩
      have hl1 := fromF_len _ _ _ _ _ _ hr1
      have hl2 := fromF_len _ _ _ _ _ _ hr2
      simp only [hsz] at hl1 hl2 hout
      have MD1 : Hid (MD D1) := Lib.hid (by rw [← hD1]; exact md_of hl1)
      have MD2 : Hid (MD D2) := Lib.hid (by rw [← hD2]; exact md_of hl2)
      have HE1 : ∀ w, (Op.equalIn 10000 24 (.agg D1) (.agg D1)).run Try.prog w = .ok true w := fun w => by rw [← hD1, equal_match w m1 m1 hl1.1 hl1.2 hl1.1 hl1.2]; simp
      have hDD : e1 = 0 → D1 = D2 := fun h => by rw [← hD2, ← hD1, (hmore h).1]
      have HD1 := Lib.hid hD1
      have HD2 := Lib.hid hD2
      have HL1 := Lib.hid hl1
      have HR1 := Lib.hid hr1
      have HR2 : Hid (fromF q l.data.toList (((l.data.toList.length : Int) - k).toNat + 2) k ((n : Int) + max mo 0 % 3000) = some ⟨m2, l2, is2, e2⟩) := Lib.hid (by rw [hd]; exact hr2)
      have HMO := Lib.hid hmore
      have HOU := Lib.hid hout
      have HDD := Lib.hid hDD
      clear hr1 hr2 hD1 hD2 hl1 hl2 hmore hout hsz hDD hd
      go_upto_region 8 with fail
      rw [hk, hn]
      clear hk hn
      go_upto_region 9 with (first
    | ((with_reducible refine stopLd 31 _ rfl ?_); unfold Stop; refine wpList_load_row rfl 31 _ rfl _ rfl 31 _ (0, 0) _ kP Try.underlying31 rfl (by kernel_rfl) ?_)
    | (go_at_call 20; refine (from_any q caP ccP l k n (HCP.out.newer hU0) hl0 _ _ HR1.out).mono ?_; rintro e w9 ⟨rfl, hq9⟩; unfold resV; rw [HD1.out]; clear cP fP; replace kP := (hq9).heap kP (fun h => h); replace hz := Nat.le_trans hz (hq9).size; replace hU0 := hU0.then hq9 (fun _ _ h => h.elim); have cP := cells_of kP; (try simp only [progC, zzT, zzO, zzS] at cP); have fP := frees_of kP; clear hq9)
    | ((with_reducible refine stopAl 24 rfl ?_); unfold Stop; refine wpList_alloc_blk rfl 24 rfl (.agg #[.int .i64 0, .int .i64 0, .int .i64 0, .int .i64 0, .int .i64 0, .int .i64 0, .int .i64 0, .int .i64 0, .int .i64 0, .int .i64 0, .int .i64 0, .int .i64 0, .int .i64 0, .int .i64 0, .int .i64 0, .int .i64 0, .int .i64 0, .int .i64 0, .int .i64 0, .int .i64 0, .int .i64 0, .int .i64 0]) (by kernel_rfl) #[.int .i64 0, .int .i64 0, .int .i64 0, .int .i64 0, .int .i64 0, .int .i64 0, .int .i64 0, .int .i64 0, .int .i64 0, .int .i64 0, .int .i64 0, .int .i64 0, .int .i64 0, .int .i64 0, .int .i64 0, .int .i64 0, .int .i64 0, .int .i64 0, .int .i64 0, .int .i64 0, .int .i64 0, .int .i64 0] rfl ?_; intro bX wn hbn kn hUn hsn; clear cP fP; have lPX := heap_lt kP; rw [hbn] at lPX; replace kP := hUn.heap kP (fun h => h); have gX : w.heap.size ≤ bX := Nat.le_trans hU0.size (Nat.le_of_eq hbn); have kX := kn; replace hU0 := hU0.then hUn (fun _ _ h => h.elim); replace hz : w.heap.size ≤ wn.heap.size := (by omega); clear kn hUn hsn hbn; have cX := cells_of kX; (try simp only [progC, zzT, zzO, zzS] at cX); have fX := frees_of kX; have cP := cells_of kP; (try simp only [progC, zzT, zzO, zzS] at cP); have fP := frees_of kP)
    | ((with_reducible refine stopSt 24 _ _ rfl ?_); unfold Stop; refine wpList_store_blk rfl 24 _ _ rfl bX 0 rfl (.agg D1) rfl #[.int .i64 0, .int .i64 0, .int .i64 0, .int .i64 0, .int .i64 0, .int .i64 0, .int .i64 0, .int .i64 0, .int .i64 0, .int .i64 0, .int .i64 0, .int .i64 0, .int .i64 0, .int .i64 0, .int .i64 0, .int .i64 0, .int .i64 0, .int .i64 0, .int .i64 0, .int .i64 0, .int .i64 0, .int .i64 0] D1 _ kX MD1.out.le MD1.out.info MD1.out.ones MD1.out.spl ?_; intro w8 k8 hu8 hs8; clear cX fX; clear cP fP; replace kP := (hu8).heap kP ((by omega)); replace hz := Nat.le_trans hz (hu8).size; replace hU0 := hU0.then hu8 (fun i hi (e : i = bX) => by omega); have cP := cells_of kP; (try simp only [progC, zzT, zzO, zzS] at cP); have fP := frees_of kP; have kXv := k8; clear k8 kX hu8 hs8; have cXv := cells_of kXv; (try simp only [progC, zzT, zzO, zzS] at cXv); have fXv := frees_of kXv))
      go_upto_region 10 with (first
    | ((with_reducible refine stopLd 31 _ rfl ?_); unfold Stop; refine wpList_load_row rfl 31 _ rfl _ rfl 31 _ (0, 0) _ kP Try.underlying31 rfl (by kernel_rfl) ?_)
    | (go_at_call 20; refine (from_any q caP ccP l k ((n : Int) + max mo 0 % 3000) (HCP.out.newer hU0) hl0 _ _ HR2.out).mono ?_; rintro e w9 ⟨rfl, hq9⟩; unfold resV; rw [HD2.out]; clear cP fP cXv fXv; replace kP := (hq9).heap kP (fun h => h); replace kXv := (hq9).heap kXv (fun h => h); replace hz := Nat.le_trans hz (hq9).size; replace hU0 := hU0.then hq9 (fun _ _ h => h.elim); have cP := cells_of kP; (try simp only [progC, zzT, zzO, zzS] at cP); have fP := frees_of kP; have cXv := cells_of kXv; (try simp only [progC, zzT, zzO, zzS] at cXv); have fXv := frees_of kXv; clear hq9)
    | ((with_reducible refine stopAl 24 rfl ?_); unfold Stop; refine wpList_alloc_blk rfl 24 rfl (.agg #[.int .i64 0, .int .i64 0, .int .i64 0, .int .i64 0, .int .i64 0, .int .i64 0, .int .i64 0, .int .i64 0, .int .i64 0, .int .i64 0, .int .i64 0, .int .i64 0, .int .i64 0, .int .i64 0, .int .i64 0, .int .i64 0, .int .i64 0, .int .i64 0, .int .i64 0, .int .i64 0, .int .i64 0, .int .i64 0]) (by kernel_rfl) #[.int .i64 0, .int .i64 0, .int .i64 0, .int .i64 0, .int .i64 0, .int .i64 0, .int .i64 0, .int .i64 0, .int .i64 0, .int .i64 0, .int .i64 0, .int .i64 0, .int .i64 0, .int .i64 0, .int .i64 0, .int .i64 0, .int .i64 0, .int .i64 0, .int .i64 0, .int .i64 0, .int .i64 0, .int .i64 0] rfl ?_; intro bY wn hbn kn hUn hsn; clear cP fP cXv fXv; have lPY := heap_lt kP; rw [hbn] at lPY; replace kP := hUn.heap kP (fun h => h); have lXvY := heap_lt kXv; rw [hbn] at lXvY; replace kXv := hUn.heap kXv (fun h => h); have gY : w.heap.size ≤ bY := Nat.le_trans hU0.size (Nat.le_of_eq hbn); have kY := kn; replace hU0 := hU0.then hUn (fun _ _ h => h.elim); replace hz : w.heap.size ≤ wn.heap.size := (by omega); clear kn hUn hsn hbn; have cY := cells_of kY; (try simp only [progC, zzT, zzO, zzS] at cY); have fY := frees_of kY; have cP := cells_of kP; (try simp only [progC, zzT, zzO, zzS] at cP); have fP := frees_of kP; have cXv := cells_of kXv; (try simp only [progC, zzT, zzO, zzS] at cXv); have fXv := frees_of kXv)
    | ((with_reducible refine stopSt 24 _ _ rfl ?_); unfold Stop; refine wpList_store_blk rfl 24 _ _ rfl bY 0 rfl (.agg D2) rfl #[.int .i64 0, .int .i64 0, .int .i64 0, .int .i64 0, .int .i64 0, .int .i64 0, .int .i64 0, .int .i64 0, .int .i64 0, .int .i64 0, .int .i64 0, .int .i64 0, .int .i64 0, .int .i64 0, .int .i64 0, .int .i64 0, .int .i64 0, .int .i64 0, .int .i64 0, .int .i64 0, .int .i64 0, .int .i64 0] D2 _ kY MD2.out.le MD2.out.info MD2.out.ones MD2.out.spl ?_; intro w8 k8 hu8 hs8; clear cY fY; clear cP fP cXv fXv; replace kP := (hu8).heap kP ((by omega)); replace kXv := (hu8).heap kXv ((by omega)); replace hz := Nat.le_trans hz (hu8).size; replace hU0 := hU0.then hu8 (fun i hi (e : i = bY) => by omega); have cP := cells_of kP; (try simp only [progC, zzT, zzO, zzS] at cP); have fP := frees_of kP; have cXv := cells_of kXv; (try simp only [progC, zzT, zzO, zzS] at cXv); have fXv := frees_of kXv; have kYv := k8; clear k8 kY hu8 hs8; have cYv := cells_of kYv; (try simp only [progC, zzT, zzO, zzS] at cYv); have fYv := frees_of kYv))
      clear cXv cYv
      rcases HOU.out with ⟨rfl, hm0, hl0', hl9⟩ | ⟨rfl, rfl, hb, hl0', hl9⟩
      · have hZ : D1 = #[.int .i64 0, .int .i64 0, .int .i64 0, .int .i64 0, .int .i64 0, .int .i64 0, .int .i64 0, .int .i64 0, .int .i64 0, .int .i64 0, .int .i64 0, .int .i64 0, .int .i64 0, .int .i64 0, .int .i64 0, .int .i64 0, .int .i64 0, .int .i64 0, .int .i64 0, .int .i64 0, .int .i64 0, .int .i64 0] := by rw [← HD1.out, hm0]; rfl
        by_cases he : e1 = 0
        · subst he
          obtain ⟨rfl, rfl, rfl, rfl⟩ := HMO.out rfl
          have hD := HDD.out rfl
          subst hD
          have q1 : ¬ (l1 + (d : Int) < l1) := by omega
          have q2 : ¬ (l1 < 0) := by omega
          have q3 : ¬ ((n : Int) < l1) := by omega
          have HE0 : ∀ w, (Op.equalIn 10000 24 (.agg D1) (.agg #[.int .i64 0, .int .i64 0, .int .i64 0, .int .i64 0, .int .i64 0, .int .i64 0, .int .i64 0, .int .i64 0, .int .i64 0, .int .i64 0, .int .i64 0, .int .i64 0, .int .i64 0, .int .i64 0, .int .i64 0, .int .i64 0, .int .i64 0, .int .i64 0, .int .i64 0, .int .i64 0, .int .i64 0, .int .i64 0])).run Try.prog w = .ok true w := fun w => by have h := HE1 w; rw [hZ] at h ⊢; exact h
          clear hZ
          clear HMO HDD HOU hm0 HL1 HR1 HR2 HD1 HD2
          go_wp2_with (first
    | ((with_reducible refine stopLd 24 _ rfl ?_); unfold Stop; refine wpList_want (by rfl) (fun K9 hK9 => ?_); refine wp_load_blk 24 _ rfl bX 0 rfl D1 D1 _ (0, 0) _ kXv Try.underlying24 rfl (by simp) MD1.out.info ?_; refine hK9 _ _ ?_; clear hK9 K9)
    | ((with_reducible refine stopLd 24 _ rfl ?_); unfold Stop; refine wpList_want (by rfl) (fun K9 hK9 => ?_); refine wp_load_blk 24 _ rfl bY 0 rfl D1 D1 _ (0, 0) _ kYv Try.underlying24 rfl (by simp) MD1.out.info ?_; refine hK9 _ _ ?_; clear hK9 K9))
          go_ret
          exact ⟨rfl, HFIN.out _ (HUB.out.then hU0.old (fun _ _ h => h))⟩
        · have q0 : (e1 == 0) = false := by simpa using he
          have q2 : ¬ (l1 < 0) := by omega
          have q3 : ¬ ((n : Int) < l1) := by omega
          have HE0 : ∀ w, (Op.equalIn 10000 24 (.agg D1) (.agg #[.int .i64 0, .int .i64 0, .int .i64 0, .int .i64 0, .int .i64 0, .int .i64 0, .int .i64 0, .int .i64 0, .int .i64 0, .int .i64 0, .int .i64 0, .int .i64 0, .int .i64 0, .int .i64 0, .int .i64 0, .int .i64 0, .int .i64 0, .int .i64 0, .int .i64 0, .int .i64 0, .int .i64 0, .int .i64 0])).run Try.prog w = .ok true w := fun w => by have h := HE1 w; rw [hZ] at h ⊢; exact h
          clear hZ
          clear HMO HDD HOU hm0 HL1 HR1 HR2 HD1 HD2
          go_wp2_with (first
    | ((with_reducible refine stopLd 24 _ rfl ?_); unfold Stop; refine wpList_want (by rfl) (fun K9 hK9 => ?_); refine wp_load_blk 24 _ rfl bX 0 rfl D1 D1 _ (0, 0) _ kXv Try.underlying24 rfl (by simp) MD1.out.info ?_; refine hK9 _ _ ?_; clear hK9 K9)
    | ((with_reducible refine stopLd 24 _ rfl ?_); unfold Stop; refine wpList_want (by rfl) (fun K9 hK9 => ?_); refine wp_load_blk 24 _ rfl bY 0 rfl D1 D1 _ (0, 0) _ kYv Try.underlying24 rfl (by simp) MD1.out.info ?_; refine hK9 _ _ ?_; clear hK9 K9))
          go_ret
          exact ⟨rfl, HFIN.out _ (HUB.out.then hU0.old (fun _ _ h => h))⟩
      · obtain ⟨rfl, rfl, rfl, rfl⟩ := HMO.out rfl
        have hD := HDD.out rfl
        subst hD
        have q1 : ¬ (l1 + (d : Int) < l1) := by omega
        have q2 : ¬ (l1 < 0) := by omega
        have q3 : ¬ ((n : Int) < l1) := by omega
        have HBD := Lib.hid hb
        clear HMO HDD HOU HR1 HR2 HD2
        go_upto_region 14 with (first
    | ((with_reducible refine stopLd 24 _ rfl ?_); unfold Stop; refine wpList_want (by rfl) (fun K9 hK9 => ?_); refine wp_load_blk 24 _ rfl bX 0 rfl D1 D1 _ (0, 0) _ kXv Try.underlying24 rfl (by simp) MD1.out.info ?_; refine hK9 _ _ ?_; clear hK9 K9)
    | ((with_reducible refine stopLd 24 _ rfl ?_); unfold Stop; refine wpList_want (by rfl) (fun K9 hK9 => ?_); refine wp_load_blk 24 _ rfl bY 0 rfl D1 D1 _ (0, 0) _ kYv Try.underlying24 rfl (by simp) MD1.out.info ?_; refine hK9 _ _ ?_; clear hK9 K9))
        clear HE1 q1 q2 q3
        obtain ⟨wS, rfl⟩ : ∃ x, x = w8 := ⟨_, rfl⟩
        have HKX := Lib.hid kXv
        clear kXv kYv kP cP fP
        go_wp2_with fail
        go_loopg [24] 10 (fun gk iv wr => ∃ j : Nat, iv = .int .i64 (j : Int) ∧ j + gk = 10 ∧ Upd (fun _ => False) wS wr)
        case atStart => exact ⟨0, rfl, rfl, Upd.refl _ _⟩
        case round =>
          obtain ⟨j, rfl, hj, hW⟩ := hrel
          have kX := hW.heap HKX.out (fun h => h)
          rw [← HD1.out] at kX
          by_cases hlt : j < 10
          · have gi : (j : Int) < 10 := by omega
            have cB := cell_of kX (2 + j) (match_beg m2 j (by rw [HL1.out.1]; exact hlt))
            have cE := cell_of kX (12 + j) (match_end m2 j HL1.out.1 (by rw [HL1.out.2]; exact hlt))
            have hgr := HBD.out.grp j hlt
            obtain ⟨B, hB⟩ : ∃ B, m2.beg.getD j 0 = B := ⟨_, rfl⟩
            obtain ⟨E, hE⟩ : ∃ E, m2.end_.getD j 0 = E := ⟨_, rfl⟩
            rw [hB] at cB hgr
            rw [hE] at cE hgr
            clear hB hE kX
            obtain ⟨wd, hwd⟩ : ∃ wd, wr.drew = wd := ⟨_, rfl⟩
            have dB : wd.cell? ⟨bX, 2 + j, none⟩ = some (.int .i64 B) := by rw [← hwd]; exact cB
            have dE : wd.cell? ⟨bX, 12 + j, none⟩ = some (.int .i64 E) := by rw [← hwd]; exact cE
            have HWD : Hid (Upd (fun _ => False) wS wd) := Lib.hid (by rw [← hwd]; exact hW.drew)
            rcases hgr with ⟨rfl, rfl⟩ | ⟨b1, b2, b3⟩
            · clear hwd
              go_upto_region 18 with fail
              clear cB cE
              obtain ⟨wd, hwd⟩ : ∃ wd, wr.drew = wd := ⟨_, rfl⟩
              have HWD : Hid (Upd (fun _ => False) wS wd) := Lib.hid (by rw [← hwd]; exact hW.drew)
              refine wp_region_seq (fun v => v = wd) (fun i => i != 99) [(0, true), (1, true), (2, true), (3, true), (4, true), (5, true), (6, true), (7, true), (8, true), (9, true), (10, true), (11, true), (12, true), (13, true), (14, true), (15, true), (16, true), (17, true), (18, true), (19, true), (20, true), (21, true), (22, true), (23, true), (24, true), (25, true), (26, true), (27, true), (28, true)] (by exact rfl) (by kernel_rfl) (by intro c a d v w h; cases d <;> exact h) ?_
              rw [hwd]; have hS : wd = wd := rfl
              iterate 29 ((first | (refine seq_skip2 rfl (by rfl) hS ?_) | (apply seq_val2 rfl (by rfl); (focus (intro w' hS'; subst hS'; go_simp; (first | done | exact rfl | (rw [if_pos (by omega)]; done)))); (focus exact hS))); (try simp only [Act.put, zzT, zzO, zzS]))
              refine seq_nil ?_
              go_wp2_with fail
              go_roundg (gk - 1)
              case measure => omega
              case rel => exact ⟨j + 1, by go_num, by omega, HWD.out⟩
            · have p1 : (B == -1) = false := beq_eq_false_iff_ne.mpr (by omega)
              clear hwd dB dE HWD
              go_upto_region 18 with fail
              obtain ⟨wd, hwd⟩ : ∃ wd, wr.drew = wd := ⟨_, rfl⟩
              have dB : wd.cell? ⟨bX, 2 + j, none⟩ = some (.int .i64 B) := by rw [← hwd]; exact cB
              have dE : wd.cell? ⟨bX, 12 + j, none⟩ = some (.int .i64 E) := by rw [← hwd]; exact cE
              have HWD : Hid (Upd (fun _ => False) wS wd) := Lib.hid (by rw [← hwd]; exact hW.drew)
              clear cB cE
              have p2 : decide (B < 0) = false := decide_eq_false (by omega)
              have p3 : decide (E < B) = false := decide_eq_false (by omega)
              have p4 : decide ((l.size : Int) < E) = false := decide_eq_false (by omega)
              refine wp_region_seq (fun v => v = wd) (fun i => i != 99) [(0, true), (1, true), (2, true), (3, true), (4, true), (5, true), (6, true), (7, true), (8, true), (9, true), (10, true), (11, true), (12, true), (13, true), (14, true), (15, true), (16, true), (17, true), (18, true), (19, true), (20, true), (21, true), (22, true), (23, true), (24, true), (25, true), (26, true), (27, true), (28, true)] (by exact rfl) (by kernel_rfl) (by intro c a d v w h; cases d <;> exact h) ?_
              rw [hwd]; have hS : wd = wd := rfl
              iterate 29 ((first | (refine seq_skip2 rfl (by rfl) hS ?_) | (apply seq_val2 rfl (by rfl); (focus (intro w' hS'; subst hS'; go_simp; (first | done | exact rfl | (rw [if_pos (by omega)]; done)))); (focus exact hS))); (try simp only [Act.put, zzT, zzO, zzS]))
              refine seq_nil ?_
              go_wp2_with fail
              go_roundg (gk - 1)
              case measure => omega
              case rel => exact ⟨j + 1, by go_num, by omega, HWD.out⟩
          · have gi : ¬ (j : Int) < 10 := by omega
            have c0 := cell_of kX 0 (match_from m2)
            have c1 := cell_of kX 1 (match_to m2)
            have c2 := cell_of kX 2 (match_beg m2 0 (by rw [HL1.out.1]; decide))
            have c12 := cell_of kX 12 (match_end m2 0 HL1.out.1 (by rw [HL1.out.2]; decide))
            have e2 := HBD.out.b0
            have e12 := HBD.out.e0
            rw [e2] at c2
            rw [e12] at c12
            have f1 := HBD.out.lo
            have f2 := HBD.out.up
            have f3 := HBD.out.hi
            obtain ⟨F, hF⟩ : ∃ F, m2.from_ = F := ⟨_, rfl⟩
            obtain ⟨O, hO⟩ : ∃ O, m2.to_ = O := ⟨_, rfl⟩
            rw [hF] at c0 c2 f1 f2
            rw [hO] at c1 c12 f2 f3
            clear kX e2 e12 hF hO
            have HWE := Lib.hid hW
            go_wp2_with fail
            go_ret
            exact ⟨rfl, HFIN.out _ (HUB.out.then (hU0.then HWE.out (fun _ _ h => h.elim)).old (fun _ _ h => h))⟩
end Go.Proofs.Ytigbfgmgdfnhcaa
