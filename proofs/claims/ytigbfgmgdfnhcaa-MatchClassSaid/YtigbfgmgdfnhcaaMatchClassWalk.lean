/- The walk of the law MatchClass. (Printed by tools/clsgen.py.) -/
import Derived.Test.YtigbfgmgdfnhcaaMatchClassPlain
import Derived.Test.YtigbfgmgdfnhcaaBaseA0
set_option linter.all false
set_option linter.unusedVariables false
set_option linter.unusedSimpArgs false
namespace Go.Proofs.Ytigbfgmgdfnhcaa
open Go.RowKit

set_option maxRecDepth 100000 in
set_option maxHeartbeats 8000000 in
theorem class_law (c : Int) (c0 : 0 ≤ c) (c1 : c ≤ 255) (l : ByteArray) (hl : l.size ≤ maxLen) (W : World) :
    Calls Try.prog 8 #[.int .u8 c, .string l] W fun e w' => e = .returned (.bool true) ∧ Below W.heap.size W w' := by
  have HFIN : Hid (∀ w', Upd (fun _ => False) W w' → Below W.heap.size W w') := Lib.hid (fun w' h => h.below (Nat.le_refl _) (fun _ _ h => h))
  have HUB := Lib.hid (Upd.refl (fun _ => False) W)
  obtain ⟨w, rfl⟩ : ∃ w, w = W := ⟨_, rfl⟩
  have hU0 := Upd.refl (fun k => w.heap.size ≤ k) w
  have hz := Nat.le_refl w.heap.size
  clear hl
  obtain ⟨K, hK⟩ : ∃ K, knownB (smallI c) = K := ⟨_, rfl⟩
  have HK := Lib.hid hK
  clear hK
  go_enter Try.func8, Try.ntmps8
  by_cases h2 : 200 < l.size
  · have g2 : (200 : Int) < (l.size : Int) := by omega
    go_wp2_with (first
      | (go_at_call 17; refine known_any.mono ?_; rintro e w9 ⟨rfl, hq9⟩; replace hz := Nat.le_trans hz (hq9).size; replace hU0 := hU0.then hq9 (fun _ _ h => h.elim); clear hq9))
    go_ret
    exact ⟨rfl, HFIN.out _ (HUB.out.then hU0.old (fun _ _ h => h))⟩
  · have g2 : ¬ (200 : Int) < (l.size : Int) := by omega
    cases K
    · go_wp2_with (first
        | (go_at_call 21; refine (rKnown_any _ (by omega) (by omega) _).mono ?_; rintro e w9 ⟨rfl, rfl⟩; rw [HK.out])
        | (go_at_call 17; refine known_any.mono ?_; rintro e w9 ⟨rfl, hq9⟩; replace hz := Nat.le_trans hz (hq9).size; replace hU0 := hU0.then hq9 (fun _ _ h => h.elim); clear hq9))
      go_ret
      exact ⟨rfl, HFIN.out _ (HUB.out.then hU0.old (fun _ _ h => h))⟩
    · have hl0 : l.size ≤ 140737488351232 := by omega
      go_upto_region 3 with (first
        | (go_at_call 21; refine (rKnown_any _ (by omega) (by omega) _).mono ?_; rintro e w9 ⟨rfl, rfl⟩; rw [HK.out])
        | (go_at_call 17; refine known_any.mono ?_; rintro e w9 ⟨rfl, hq9⟩; replace hz := Nat.le_trans hz (hq9).size; replace hU0 := hU0.then hq9 (fun _ _ h => h.elim); clear hq9))
      obtain ⟨cn, rfl⟩ : ∃ n : Nat, c = n := ⟨c.toNat, by omega⟩
      have hcn : cn < 256 := by omega
      have HCC := Lib.hid (comp_cls hcn HK.out)
      have hsz : l.data.toList.length = l.size := by simp
      obtain ⟨l1, j, j0, j1, j2, j3⟩ := from_cls (cn : Int) l.data.toList (l.size + 2) 0 5000 (Nat.zero_le _) (by omega) (by omega) (by decide)
      rw [hsz] at j1 j3
      obtain ⟨m1, is1, hr1, hj⟩ : ∃ m is, fromF (qCls (cn : Int)) l.data.toList (l.size + 2) 0 5000 = some ⟨m, l1, is, 0⟩ ∧ ((j < l.size ∧ isB (cn : Int) (bl l.data.toList j) = true ∧ is = true ∧ m = clsM j) ∨ (j = l.size ∧ is = false)) := by
        rcases j3 with ⟨g1, g2, g3⟩ | ⟨g1, g3⟩
        · exact ⟨_, _, g3, .inl ⟨g1, g2, rfl, rfl⟩⟩
        · exact ⟨_, _, g3, .inr ⟨g1, rfl⟩⟩
      obtain ⟨D1, hD1⟩ : ∃ D, matchC m1 = D := ⟨_, rfl⟩
      have hl1 := fromF_len _ _ _ _ _ _ hr1
      simp only [] at hl1
      have MD1 : Hid (MD D1) := Lib.hid (by rw [← hD1]; exact md_of hl1)
      have HF : Hid (is1 = true → D1[0]? = some (.int .i64 (j : Int)) ∧ D1[1]? = some (.int .i64 ((j + 1 : Nat) : Int))) := Lib.hid (fun hi => by
        rcases hj with ⟨_, _, _, rfl⟩ | ⟨_, h⟩
        · have h := clsM_ends j
          rw [← hD1]
          have e0 := match_from (clsM j)
          have e1 := match_to (clsM j)
          rw [h.1] at e0
          rw [h.2] at e1
          exact ⟨e0, e1⟩
        · rw [hi] at h; cases h)
      have HD1 := Lib.hid hD1
      have HR1 := Lib.hid hr1
      have HJ2 := Lib.hid j2
      have HJ := Lib.hid hj
      clear hr1 hD1 hl1 hj j2 j3 hsz j0
      go_upto_region 4 with (first
    | ((with_reducible refine stopBS 43 _ _ rfl ?_); unfold Stop; refine wpList_sliceLit_blk rfl 43 5 1 _ rfl Try.underlying43 #[.int .u8 (cn : Int)] (by go_simp; first | done | rfl | kernel_rfl) ?_; intro bB w8 hbB kB hu8 hs8; have kB2 := kB; clear kB; replace hz := Nat.le_trans hz (hu8).size; replace hU0 := hU0.then hu8 (fun _ _ h => h.elim))
    | ((with_reducible refine stopCv 43 9 _ rfl ?_); unfold Stop; refine wpList_conv rfl rfl rfl (conv_byte _ bB cn hcn kB2) ?_)
    | (go_at_call 15; refine (compiled_any ⟨#[92, UInt8.ofNat cn]⟩ false (qCls (cn : Int)) (zzB rfl) HCC.out).mono ?_; rintro e w9 ⟨cvP, rfl, hcdP, huP⟩; obtain ⟨caP, ccP, rfl⟩ := hcdP.form; unfold progC; replace hz := Nat.le_trans hz (huP).size; replace hU0 := hU0.then huP (fun _ _ h => h.elim); replace HUB := Lib.hid (HUB.out.then hU0.old (fun _ _ h => h)); have HCP := Lib.hid hcdP.rows; clear hU0 hz hcdP huP; obtain ⟨w, rfl⟩ : ∃ x, x = w9 := ⟨_, rfl⟩; have hU0 := Upd.refl (fun k => w.heap.size ≤ k) w; have hz := Nat.le_refl w.heap.size)
    | (go_at_call 20; refine (from_any (qCls (cn : Int)) caP ccP l 0 5000 (HCP.out.newer hU0) hl0 _ _ HR1.out).mono ?_; rintro e w9 ⟨rfl, hq9⟩; unfold resV; rw [HD1.out]; replace hz := Nat.le_trans hz (hq9).size; replace hU0 := hU0.then hq9 (fun _ _ h => h.elim); clear hq9)
    | ((with_reducible refine stopAl 24 rfl ?_); unfold Stop; refine wpList_alloc_blk rfl 24 rfl (.agg #[.int .i64 0, .int .i64 0, .int .i64 0, .int .i64 0, .int .i64 0, .int .i64 0, .int .i64 0, .int .i64 0, .int .i64 0, .int .i64 0, .int .i64 0, .int .i64 0, .int .i64 0, .int .i64 0, .int .i64 0, .int .i64 0, .int .i64 0, .int .i64 0, .int .i64 0, .int .i64 0, .int .i64 0, .int .i64 0]) (by kernel_rfl) #[.int .i64 0, .int .i64 0, .int .i64 0, .int .i64 0, .int .i64 0, .int .i64 0, .int .i64 0, .int .i64 0, .int .i64 0, .int .i64 0, .int .i64 0, .int .i64 0, .int .i64 0, .int .i64 0, .int .i64 0, .int .i64 0, .int .i64 0, .int .i64 0, .int .i64 0, .int .i64 0, .int .i64 0, .int .i64 0] rfl ?_; intro bX wn hbn kn hUn hsn; have gX : w.heap.size ≤ bX := Nat.le_trans hU0.size (Nat.le_of_eq hbn); have kX := kn; replace hU0 := hU0.then hUn (fun _ _ h => h.elim); replace hz : w.heap.size ≤ wn.heap.size := (by omega); clear kn hUn hsn hbn; have cX := cells_of kX; (try simp only [progC, zzT, zzO, zzS] at cX); have fX := frees_of kX)
    | ((with_reducible refine stopSt 24 _ _ rfl ?_); unfold Stop; refine wpList_store_blk rfl 24 _ _ rfl bX 0 rfl (.agg D1) rfl #[.int .i64 0, .int .i64 0, .int .i64 0, .int .i64 0, .int .i64 0, .int .i64 0, .int .i64 0, .int .i64 0, .int .i64 0, .int .i64 0, .int .i64 0, .int .i64 0, .int .i64 0, .int .i64 0, .int .i64 0, .int .i64 0, .int .i64 0, .int .i64 0, .int .i64 0, .int .i64 0, .int .i64 0, .int .i64 0] D1 _ kX MD1.out.le MD1.out.info MD1.out.ones MD1.out.spl ?_; intro w8 k8 hu8 hs8; clear cX fX; replace hz := Nat.le_trans hz (hu8).size; replace hU0 := hU0.then hu8 (fun i hi (e : i = bX) => by omega); have kXv := k8; clear k8 kX hu8 hs8; have cXv := cells_of kXv; (try simp only [progC, zzT, zzO, zzS] at cXv); have fXv := frees_of kXv))
      clear cXv
      have HKX := Lib.hid kXv
      have HUE := Lib.hid hU0
      obtain ⟨wS, rfl⟩ : ∃ x, x = w8 := ⟨_, rfl⟩
      clear kXv hU0 hz
      go_wp2_with fail
      go_loopg [9] l.size (fun gk iv wr => ∃ i : Nat, iv = .int .i64 (i : Int) ∧ i ≤ j ∧ i + gk = l.size ∧ Upd (fun _ => False) wS wr)
      case atStart => exact ⟨0, rfl, Nat.zero_le _, by omega, Upd.refl _ _⟩
      case round =>
        obtain ⟨i, rfl, hij, hi, hW⟩ := hrel
        by_cases hlt : i < j
        · have hil : i < l.size := by omega
          have gi : (i : Int) < (l.size : Int) := by omega
          have hIS : isB (cn : Int) ((l[i]'hil).toNat : Int) = false := by rw [bl_at hil]; exact HJ2.out i (Nat.zero_le _) hlt
          have HW := Lib.hid hW
          go_wp2_with (first
            | (go_at_call 18; refine (rIs_any (cn : Int) _ (by omega) (by omega) _).mono ?_; rintro e w9 ⟨rfl, rfl⟩))
          go_roundg (gk - 1)
          case measure => omega
          case rel => exact ⟨i + 1, by go_num, by omega, by omega, HW.out⟩
        · obtain rfl : i = j := by omega
          have kX := hW.heap HKX.out (fun h => h)
          have HW := Lib.hid hW
          clear hW
          rcases HJ.out with ⟨hjl, hb, rfl, hm⟩ | ⟨hjl, rfl⟩
          · have gi : (i : Int) < (l.size : Int) := by omega
            have hIS : isB (cn : Int) ((l[i]'hjl).toNat : Int) = true := by rw [bl_at hjl]; exact hb
            have d0 := cell_of kX 0 (HF.out rfl).1
            have d1 := cell_of kX 1 (HF.out rfl).2
            clear kX hb hm
            go_wp2_with (first
              | (go_at_call 18; refine (rIs_any (cn : Int) _ (by omega) (by omega) _).mono ?_; rintro e w9 ⟨rfl, rfl⟩))
            go_ret
            exact ⟨rfl, HFIN.out _ (HUB.out.then ((HUE.out.then HW.out (fun _ _ h => h.elim)).old) (fun _ _ h => h))⟩
          · have gi : ¬ (i : Int) < (l.size : Int) := by omega
            clear kX hjl
            go_wp2_with fail
            go_ret
            exact ⟨rfl, HFIN.out _ (HUB.out.then ((HUE.out.then HW.out (fun _ _ h => h.elim)).old) (fun _ _ h => h))⟩
end Go.Proofs.Ytigbfgmgdfnhcaa
