/- Lemmas that the law's proof stands on, part 38: At. No condition. -/
import Derived.Test.YtigbfgmgdfnhcaaBaseA0
import Derived.Test.YtigbfgmgdfnhcaaBaseA37
set_option linter.all false
set_option linter.unusedVariables false
set_option linter.unusedSimpArgs false
namespace Go.Proofs.Ytigbfgmgdfnhcaa
open Go.RowKit
set_option maxRecDepth 100000 in
set_option maxHeartbeats 16000000 in
theorem at_any {w : World} (p : ProgD) (ca : Option Addr) (cc : Nat) (s : ByteArray) (a st : Int) (hc : CodeR w ca p.code) (hs0 : s.size ≤ 140737488351232) (R : ResD) (hR : atF p s.data.toList a st = some R) :
    Calls Try.prog 14 #[.agg (progC p (.slice ca p.code.length cc)), .string s, .int .i64 a, .int .i64 st] w fun e w' => e = .returned (resV .u16 R) ∧ Upd (fun _ => False) w w' := by
  have hU0 := Upd.refl (fun k => w.heap.size ≤ k) w
  have hz := Nat.le_refl w.heap.size
  have HC := Lib.hid hc
  have HR := Lib.hid hR
  have HL : Hid (s.data.toList.length = s.size) := Lib.hid (by simp)
  obtain ⟨E, hE⟩ : ∃ E, soundB p = E := ⟨_, rfl⟩
  have HE := Lib.hid hE
  clear hE hc hR
  unfold progC
  go_enter Try.func14, Try.ntmps14
  go_upto_region 1 with (first
    | ((with_reducible refine stopBx 31 _ rfl ?_); unfold Stop; refine wpList_box_blk rfl 31 _ rfl _ (by go_simp; first | done | exact rfl) #[.slice ca p.code.length cc, .int .i64 p.rounds, .bool p.fold] rfl ?_; intro bP wn hbn kn hUn hsn; have gP : w.heap.size ≤ bP := Nat.le_trans hU0.size (Nat.le_of_eq hbn); have kP := kn; replace hU0 := hU0.then hUn (fun _ _ h => h.elim); replace hz : w.heap.size ≤ wn.heap.size := (by omega); clear kn hUn hsn hbn; have cP := cells_of kP; (try simp only [progC, instC, zzT, zzO, zzS] at cP); have fP := frees_of kP)
    | ((with_reducible refine stopAl 24 rfl ?_); unfold Stop; refine wpList_alloc_blk rfl 24 rfl (.agg #[.int .i64 0, .int .i64 0, .int .i64 0, .int .i64 0, .int .i64 0, .int .i64 0, .int .i64 0, .int .i64 0, .int .i64 0, .int .i64 0, .int .i64 0, .int .i64 0, .int .i64 0, .int .i64 0, .int .i64 0, .int .i64 0, .int .i64 0, .int .i64 0, .int .i64 0, .int .i64 0, .int .i64 0, .int .i64 0]) (by kernel_rfl) #[.int .i64 0, .int .i64 0, .int .i64 0, .int .i64 0, .int .i64 0, .int .i64 0, .int .i64 0, .int .i64 0, .int .i64 0, .int .i64 0, .int .i64 0, .int .i64 0, .int .i64 0, .int .i64 0, .int .i64 0, .int .i64 0, .int .i64 0, .int .i64 0, .int .i64 0, .int .i64 0, .int .i64 0, .int .i64 0] rfl ?_; intro bR wn hbn kn hUn hsn; clear cP fP; have lPR := heap_lt kP; rw [hbn] at lPR; replace kP := hUn.heap kP (fun h => h); have gR : w.heap.size ≤ bR := Nat.le_trans hU0.size (Nat.le_of_eq hbn); have kR := kn; replace hU0 := hU0.then hUn (fun _ _ h => h.elim); replace hz : w.heap.size ≤ wn.heap.size := (by omega); clear kn hUn hsn hbn; have cR := cells_of kR; (try simp only [progC, instC, zzT, zzO, zzS] at cR); have fR := frees_of kR; have cP := cells_of kP; (try simp only [progC, instC, zzT, zzO, zzS] at cP); have fP := frees_of kP))
  have hPR : bP < bR := lPR
  clear lPR
  rcases (show (E = false ∨ E = true ∧ st < 0 ∨ E = true ∧ ¬ st < 0 ∧ 5000 < st ∨ E = true ∧ ¬ st < 0 ∧ ¬ 5000 < st ∧ a < 0 ∨ E = true ∧ ¬ st < 0 ∧ ¬ 5000 < st ∧ ¬ a < 0 ∧ (s.size : Int) < a) ∨ (E = true ∧ ¬ st < 0 ∧ ¬ 5000 < st ∧ ¬ a < 0 ∧ ¬ (s.size : Int) < a) by cases E <;> simp <;> omega) with hbad | hgood
  · have hbad2 : R = .zero 1 := atF_bad HR.out (by rw [HE.out, HL.out]; rcases hbad with h | ⟨_, h⟩ | ⟨_, _, h⟩ | ⟨_, _, _, h⟩ | ⟨_, _, _, _, h⟩; exact .inl h; exact .inr (.inl h); exact .inr (.inr (.inl h)); exact .inr (.inr (.inr (.inl h))); exact .inr (.inr (.inr (.inr h))))
    have HBD := Lib.hid hbad2
    clear hbad2
    rcases hbad with rfl | ⟨rfl, h1⟩ | ⟨rfl, h1, h2⟩ | ⟨rfl, h1, h2, h3⟩ | ⟨rfl, h1, h2, h3, h4⟩
    all_goals
      go_wp2_with (first
        | ((with_reducible refine stopLd 31 _ rfl ?_); unfold Stop; refine wpList_load_row rfl 31 _ rfl _ rfl 31 _ (0, 0) _ kP Try.underlying31 rfl (by kernel_rfl) ?_)
        | (go_at_call 25; refine (sound2_any p ca cc (HC.out.newer hU0)).mono ?_; rintro e wq ⟨rfl, hq⟩; rw [HE.out]; clear cP fP cR fR; replace kP := (hq).heap kP (fun h => h); replace kR := (hq).heap kR (fun h => h); replace hz := Nat.le_trans hz (hq).size; replace hU0 := hU0.then hq (fun _ _ h => h.elim); have cP := cells_of kP; (try simp only [progC, instC, zzT, zzO, zzS] at cP); have fP := frees_of kP; have cR := cells_of kR; (try simp only [progC, instC, zzT, zzO, zzS] at cR); have fR := frees_of kR; clear hq)
        | ((with_reducible refine stopSt 24 _ _ rfl ?_); unfold Stop; refine wpList_store_blk rfl 24 _ _ rfl _ _ rfl _ (by go_simp; first | done | exact rfl) _ _ _ kR (zzB rfl) (by kernel_rfl) rfl (by simp only [spl, progC, instC, Value.cells, zzT, zzO, zzS, Array.toList]; exact rfl) ?_; intro wn kn hUn hsn; clear cR fR cP fP; replace kP := hUn.heap kP (by omega); replace kR := kn; replace hU0 := hU0.then hUn (fun i hi (e : i = _) => by first | exact e | exact absurd hi (by omega) | (subst e; first | assumption | (show _ ≤ _; omega)) | exact .inl e | exact .inr e | exact .inr (.inl e) | exact .inr (.inr e)); replace hz := Nat.le_trans hz (Nat.le_of_eq hsn.symm); clear kn hUn hsn; have cR := cells_of kR; (try simp only [progC, instC, zzT, zzO, zzS] at cR); have fR := frees_of kR; have cP := cells_of kP; (try simp only [progC, instC, zzT, zzO, zzS] at cP); have fP := frees_of kP))
      exact bodyPost_ret (v := .tuple #[.agg _, .int .i64 _, .bool _, .int .u16 _]) (results_blk_tmp3 Try.results14 _ _ bR 24 _ (0, 0) _ _ _ _ rfl rfl rfl rfl kR Try.underlying24 rfl (by kernel_rfl)) rfl ⟨by rw [HBD.out]; rfl, hU0.old⟩
  · obtain ⟨rfl, h1, h2, h3, h4⟩ := hgood
    obtain ⟨aN, rfl⟩ : ∃ n : Nat, a = n := ⟨a.toNat, by omega⟩
    obtain ⟨stN, rfl⟩ : ∃ n : Nat, st = n := ⟨st.toNat, by omega⟩
    have ha : aN ≤ s.size := by omega
    have hst : stN ≤ 5000 := by omega
    have HS := Lib.hid (soundB_ok HE.out)
    have HRUN := Lib.hid (atF_run HR.out HE.out hst (by rw [HL.out]; exact ha))
    obtain ⟨rn, hrn⟩ : ∃ n : Nat, p.rounds = n := ⟨p.rounds.toNat, by have := HS.out.r1; omega⟩
    have hrn2 : rn ≤ 2000 := by have := HS.out.r2; omega
    have HRN := Lib.hid hrn
    rw [hrn] at kP
    clear cP
    have cP := cells_of kP; (try simp only [progC, instC, zzT, zzO, zzS] at cP); have fP := frees_of kP
    clear HR hrn
    go_upto_region 3 with (first
      | ((with_reducible refine stopLd 31 _ rfl ?_); unfold Stop; refine wpList_load_row rfl 31 _ rfl _ rfl 31 _ (0, 0) _ kP Try.underlying31 rfl (by kernel_rfl) ?_)
      | (go_at_call 25; rw [show Value.int .i64 (rn : Int) = Value.int .i64 p.rounds by rw [HRN.out]]; refine (sound2_any p ca cc (HC.out.newer hU0)).mono ?_; rintro e wq ⟨rfl, hq⟩; rw [HE.out]; clear cP fP cR fR; replace kP := (hq).heap kP (fun h => h); replace kR := (hq).heap kR (fun h => h); replace hz := Nat.le_trans hz (hq).size; replace hU0 := hU0.then hq (fun _ _ h => h.elim); have cP := cells_of kP; (try simp only [progC, instC, zzT, zzO, zzS] at cP); have fP := frees_of kP; have cR := cells_of kR; (try simp only [progC, instC, zzT, zzO, zzS] at cR); have fR := frees_of kR; clear hq))
    go_upto_region 4 with (first
      | (at_make; refine wpList_make_rds rfl _ _ 51 rfl rfl rn rfl rfl hrn2 ?_; intro bQ wq hbQ hrd0 hq; have lRQ : bR < bQ := (by have := heap_lt kR; omega); have hV0 := Upd.refl (fun k => bQ < k) wq; clear cP fP cR fR; replace kP := (hq).heap kP (fun h => h); replace kR := (hq).heap kR (fun h => h); replace hz := Nat.le_trans hz (hq).size; replace hU0 := hU0.then hq (fun _ _ h => h.elim); have cP := cells_of kP; (try simp only [progC, instC, zzT, zzO, zzS] at cP); have fP := frees_of kP; have cR := cells_of kR; (try simp only [progC, instC, zzT, zzO, zzS] at cR); have fR := frees_of kR; clear hq hbQ; have hbQ := (heap_lt' hrd0))
      | ((with_reducible refine stopAl 54 rfl ?_); unfold Stop; refine wpList_alloc_blk rfl 54 rfl (.agg #[.int .i64 0, .int .i64 0, .int .i64 0, .int .i64 0, .int .i64 0, .int .i64 0, .int .i64 0, .int .i64 0, .int .i64 0, .int .i64 0, .int .i64 0, .int .i64 0, .int .i64 0, .int .i64 0, .int .i64 0, .int .i64 0, .int .i64 0, .int .i64 0, .int .i64 0, .int .i64 0, .int .i64 0, .int .i64 0, .int .i64 0, .int .i64 0, .slice none 0 0]) (by kernel_rfl) #[.int .i64 0, .int .i64 0, .int .i64 0, .int .i64 0, .int .i64 0, .int .i64 0, .int .i64 0, .int .i64 0, .int .i64 0, .int .i64 0, .int .i64 0, .int .i64 0, .int .i64 0, .int .i64 0, .int .i64 0, .int .i64 0, .int .i64 0, .int .i64 0, .int .i64 0, .int .i64 0, .int .i64 0, .int .i64 0, .int .i64 0, .int .i64 0, .slice none 0 0] rfl ?_; intro bF wn hbn kn hUn hsn; clear cP fP cR fR; have lPF := heap_lt kP; rw [hbn] at lPF; replace kP := hUn.heap kP (fun h => h); have lRF := heap_lt kR; rw [hbn] at lRF; replace kR := hUn.heap kR (fun h => h); have gF : w.heap.size ≤ bF := Nat.le_trans hU0.size (Nat.le_of_eq hbn); have kF := kn; replace hU0 := hU0.then hUn (fun _ _ h => h.elim); replace hz : w.heap.size ≤ wn.heap.size := (by omega); replace hV0 := hV0.then hUn (fun _ _ h => h.elim); have lQF : bQ < bF := (by omega); clear kn hUn hsn hbn; have cF := cells_of kF; (try simp only [progC, instC, zzT, zzO, zzS] at cF); have fF := frees_of kF; have cP := cells_of kP; (try simp only [progC, instC, zzT, zzO, zzS] at cP); have fP := frees_of kP; have cR := cells_of kR; (try simp only [progC, instC, zzT, zzO, zzS] at cR); have fR := frees_of kR)
      | ((with_reducible refine stopSt 54 _ _ rfl ?_); unfold Stop; refine wpList_store_blk rfl 54 _ _ rfl _ _ rfl _ (by go_simp; first | done | exact rfl) _ _ _ kF (zzB rfl) (by kernel_rfl) rfl (by simp only [spl, progC, instC, Value.cells, zzT, zzO, zzS, Array.toList]; exact rfl) ?_; intro wn kn hUn hsn; clear cF fF cP fP cR fR; replace kP := hUn.heap kP (by omega); replace kR := hUn.heap kR (by omega); replace kF := kn; replace hU0 := hU0.then hUn (fun i hi (e : i = _) => by first | exact e | exact absurd hi (by omega) | (subst e; first | assumption | (show _ ≤ _; omega)) | exact .inl e | exact .inr e | exact .inr (.inl e) | exact .inr (.inr e)); replace hz := Nat.le_trans hz (Nat.le_of_eq hsn.symm); replace hV0 := hV0.then hUn (fun i hi (e : i = bF) => by omega); clear kn hUn hsn; have cF := cells_of kF; (try simp only [progC, instC, zzT, zzO, zzS] at cF); have fF := frees_of kF; have cP := cells_of kP; (try simp only [progC, instC, zzT, zzO, zzS] at cP); have fP := frees_of kP; have cR := cells_of kR; (try simp only [progC, instC, zzT, zzO, zzS] at cR); have fR := frees_of kR))
    obtain ⟨v, hv⟩ : ∃ v, Value.slice (some ⟨bQ, 0, none⟩) rn rn = v := ⟨_, rfl⟩
    have kF : wn.heap[bF]? = some (.cells (tryC ⟨0, aN, slotsK 0, []⟩ v) 54 (0, 0)) := by rw [← hv]; exact kF
    have HRD : Hid (∀ w', Upd (fun k => bQ < k) wn w' → RdsAt w' (bR + 1) v (List.replicate rn 0)) := Lib.hid (fun w' hu => by
      rw [← hv]
      exact RdsAt.base (ownsRow_upd (ownsRow_upd hrd0 hV0 (fun g hg (e : bQ < g) => by simp only [Value.ownBlock, Option.some.injEq] at hg; omega)) hu (fun g hg (e : bQ < g) => by simp only [Value.ownBlock, Option.some.injEq] at hg; omega)) (by omega))
    have HVB : Hid (v.cells = #[v] ∧ v.oneCell' = true) := Lib.hid (by rw [← hv]; exact ⟨rfl, rfl⟩)
    have HSZ : Hid (∀ k, k ≤ 22 → (tryC ⟨0, aN, slotsK k, []⟩ v).size = 25) := Lib.hid (fun k hk => try_size _ _ (slotsK_len hk))
    have HST : Hid (∀ k, k < 22 → (tryC ⟨0, aN, slotsK k, []⟩ v).setIfInBounds (2 + k) (.int .i64 (-1)) = tryC ⟨0, aN, slotsK (k + 1), []⟩ v) := Lib.hid (fun k hk => by rw [try_set_slot _ _ _ _ (by show k < (slotsK k).length; rw [slotsK_len (by omega)]; exact hk)]; show tryC ⟨0, aN, (slotsK k).set k (-1), []⟩ v = _; rw [slotsK_set hk])
    obtain ⟨wL, hwL⟩ : ∃ wL, wn = wL := ⟨_, rfl⟩
    rw [hwL] at kF kP kR hU0 hz HRD
    clear cF fF cP fP cR fR hrd0 hV0
    subst hwL
    go_wp2_with fail
    clear hv
    go_loopg [45] 22 (fun gk iv wr => ∃ k : Nat, iv = .int .i64 (k : Int) ∧ k + gk = 22 ∧ wr.heap[bF]? = some (.cells (tryC ⟨0, aN, slotsK k, []⟩ v) 54 (0, 0)) ∧ Upd (fun k => k = bF) wn wr)
    case atStart => exact ⟨0, rfl, rfl, kF, Upd.refl _ _⟩
    case round =>
      clear kF
      obtain ⟨k, rfl, hk, kF, hW0⟩ := hrel
      by_cases hlt : k < 22
      · have gi : ((k : Nat) : Int) < 22 := by omega
        go_wp2_with (first
          | ((with_reducible refine stopSt 3 _ _ rfl ?_); unfold Stop; refine wpList_store_blk rfl 3 _ _ rfl bF (2 + k) rfl (.int .i64 (-1)) rfl (tryC ⟨0, aN, slotsK k, []⟩ v) (tryC ⟨0, aN, slotsK (k + 1), []⟩ v) _ kF (by rw [HSZ.out k (by omega)]; exact (by omega : 2 + k + 1 ≤ 25)) (by kernel_rfl) rfl (HST.out k hlt) ?_; intro w1 k1 hu1 hs1))
        go_roundg (gk - 1)
        case measure => omega
        case rel => exact ⟨k + 1, by go_num, by omega, k1, hW0.then hu1 (fun _ _ h => h)⟩
      · have gi : ¬ ((k : Nat) : Int) < 22 := by omega
        have hk22 : k = 22 := by omega
        subst hk22
        obtain ⟨FT, hFT⟩ : ∃ FT, firstT aN p.rounds = FT := ⟨_, rfl⟩
        have HFC : Hid (tryC ⟨0, aN, (slotsK 22).set 0 (aN : Int), []⟩ v = tryC FT v) := Lib.hid (by rw [← hFT]; rfl)
        have HF0 : Hid ((tryC ⟨0, aN, slotsK 22, []⟩ v).setIfInBounds 2 (.int .i64 (aN : Int)) = tryC FT v) := Lib.hid (by rw [← HFC.out]; exact try_set_slot ⟨0, aN, slotsK 22, []⟩ v 0 (aN : Int) (by show 0 < (slotsK 22).length; decide))
        have HFO : Hid (TOK p s.size FT) := Lib.hid (by rw [← hFT]; exact first_ok HS.out ha)
        have HFR : Hid (FT.rounds = List.replicate rn 0) := Lib.hid (by rw [← hFT]; show List.replicate p.rounds.toNat 0 = _; rw [HRN.out]; rfl)
        have HFS : Hid ((tryC FT v).size = 25) := Lib.hid (try_size _ _ HFO.out.ok.sl)
        have HFI : Hid ((Try.prog.info? 54).map (·.size) = some (tryC FT v).size) := Lib.hid (by rw [HFS.out]; kernel_rfl)
        have HF1 : Hid ((tryC FT v).toList.all (·.oneCell') = true) := Lib.hid (List.all_eq_true.2 (fun u hu => tryL_one HVB.out.2 u hu))
        have HRUN2 : Hid (runF p s.data.toList aN (3 * stN + 4) stN none [FT] = some R) := Lib.hid (by rw [← hFT]; exact HRUN.out)
        clear hFT HRUN HST gi hlt
        have hsz22 := HSZ.out 22 (Nat.le_refl _)
        have HUF := Lib.hid hW0
        have kP := hW0.heap kP (show ¬ bP = bF by omega)
        have kR := hW0.heap kR (show ¬ bR = bF by omega)
        replace hU0 := hU0.then hW0 (fun i hi (e : i = bF) => by omega)
        have hz := hU0.size
        clear hW0
        obtain ⟨i0, hi0, hz0, hz3, hz4⟩ := info_parts info_try
        have cP := cells_of kP; (try simp only [progC, instC, zzT, zzO, zzS] at cP); have fP := frees_of kP; have cR := cells_of kR; (try simp only [progC, instC, zzT, zzO, zzS] at cR); have fR := frees_of kR
        go_upto_block 2 with (first
          | ((with_reducible refine stopSt 3 _ _ rfl ?_); unfold Stop; refine wpList_store_blk rfl 3 _ _ rfl bF 2 rfl (.int .i64 (aN : Int)) rfl _ (tryC FT v) _ kF (by rw [hsz22]; exact (by decide : 2 + 1 ≤ 25)) (by kernel_rfl) rfl HF0.out ?_; intro w2 kF2 hu2 hs2; clear cP fP cR fR; replace kP := (hu2).heap kP ((by omega)); replace kR := (hu2).heap kR ((by omega)); replace hz := Nat.le_trans hz (hu2).size; replace hU0 := hU0.then hu2 (fun i hi (e : i = bF) => by omega); have cP := cells_of kP; (try simp only [progC, instC, zzT, zzO, zzS] at cP); have fP := frees_of kP; have cR := cells_of kR; (try simp only [progC, instC, zzT, zzO, zzS] at cR); have fR := frees_of kR; have hX0 := hu2)
          | ((with_reducible refine stopLd 31 _ rfl ?_); unfold Stop; refine wpList_load_row rfl 31 _ rfl _ rfl 31 _ (0, 0) _ kP Try.underlying31 rfl (by kernel_rfl) ?_)
          | ((with_reducible refine stopLd 54 _ rfl ?_); unfold Stop; refine wpList_load_row rfl 54 _ rfl _ rfl 54 _ (0, 0) _ kF2 Try.underlying54 rfl HFI.out ?_)
          | ((with_reducible refine stopBS 56 _ _ rfl ?_); unfold Stop; refine wpList_slice1_blk rfl 56 54 _ rfl Try.underlying56 i0 _ (.agg (tryC FT v)) 25 hi0 hz0 hz3 (by decide) (by decide) _ rfl rfl (tryC FT v) rfl HFS.out ?_; intro bS w3 hbS kS hu3 hs3; have lRS : bR < bS := (by have := heap_lt kR; omega); clear cP fP cR fR; replace kP := (hu3).heap kP (fun h => h); replace kR := (hu3).heap kR (fun h => h); replace hz := Nat.le_trans hz (hu3).size; replace hU0 := hU0.then hu3 (fun _ _ h => h.elim); have cP := cells_of kP; (try simp only [progC, instC, zzT, zzO, zzS] at cP); have fP := frees_of kP; have cR := cells_of kR; (try simp only [progC, instC, zzT, zzO, zzS] at cR); have fR := frees_of kR; replace hX0 := hX0.then hu3 (fun _ _ h => h.elim); have cS := cells_of kS; have fS := frees_of kS)
          | ((with_reducible refine stopBx 58 _ rfl ?_); unfold Stop; refine wpList_box_blk rfl 58 _ rfl _ (by go_simp; first | done | exact rfl) #[.slice ca p.code.length cc, .int .i64 rn, .bool p.fold, .string s, .slice (some ⟨bS, 0, none⟩) 1 1] rfl ?_; intro bM wn hbn kn hUn hsn; clear cP fP cR fR cS fS; have lPM := heap_lt kP; rw [hbn] at lPM; replace kP := hUn.heap kP (fun h => h); have lRM := heap_lt kR; rw [hbn] at lRM; replace kR := hUn.heap kR (fun h => h); have lSM := heap_lt kS; rw [hbn] at lSM; replace kS := hUn.heap kS (fun h => h); have gM : w.heap.size ≤ bM := Nat.le_trans hU0.size (Nat.le_of_eq hbn); have kM := kn; replace hU0 := hU0.then hUn (fun _ _ h => h.elim); replace hz : w.heap.size ≤ wn.heap.size := (by omega); replace hX0 := hX0.then hUn (fun _ _ h => h.elim); clear kn hUn hsn hbn; have cM := cells_of kM; (try simp only [progC, instC, zzT, zzO, zzS] at cM); have fM := frees_of kM; have cP := cells_of kP; (try simp only [progC, instC, zzT, zzO, zzS] at cP); have fP := frees_of kP; have cR := cells_of kR; (try simp only [progC, instC, zzT, zzO, zzS] at cR); have fR := frees_of kR; have cS := cells_of kS; (try simp only [progC, instC, zzT, zzO, zzS] at cS); have fS := frees_of kS))
        have HENG : Hid (Eng wn (bR + 1) 54 p s.size (.slice (some ⟨bS, 0, none⟩) 1 1) [FT] [v]) := Lib.hid (by
          refine ⟨⟨by simp [triesC, tryL_len HFO.out.ok.sl], .inr ⟨bS, 1, tryC FT v, rfl, by omega, kS, Nat.le_refl _, by decide, by rw [HFS.out], ?_⟩⟩, rfl, fun i h1 h2 => ?_, fun t ht => ?_, List.pairwise_singleton _ _⟩
          · show (tryL FT v).take (1 * 25) = tryL FT v ++ []
            rw [List.take_of_length_le (by rw [tryL_len HFO.out.ok.sl]; decide), List.append_nil]
          · obtain rfl : i = 0 := by simp at h1; omega
            show RdsAt wn (bR + 1) v FT.rounds
            rw [HFR.out]
            exact HRD.out wn ((HUF.out.then hX0 (fun _ _ h => h)).mono (fun k _ (e : k = bF) => by omega))
          · simp only [List.mem_singleton] at ht; rw [ht]; exact HFO.out)
        have HU9 := Lib.hid hU0
        have lRM : bR < bM := by have := heap_lt kR; omega
        have kM0 : wn.heap[bM]? = some (.cells #[.slice ca p.code.length cc, .int .i64 p.rounds, .bool p.fold, .string s, .slice (some ⟨bS, 0, none⟩) 1 1] 58 (0, 0)) := by rw [HRN.out]; exact kM
        have HKPR := Lib.hid (And.intro kP kR)
        have hbB : bR + 1 ≤ wn.heap.size := heap_lt kR
        obtain ⟨wL, rfl⟩ : ∃ wL, wL = wn := ⟨_, rfl⟩
        clear cM fM kM cP fP kP cR fR kR kS cS fS hX0 hU0 hz HUF HRD HSZ HF0 HFC HF1 HFI HFS HFR HFO kF kF2 hsz22 hs2 lPM lSM
        go_wp2_with fail
        go_loopg [3] (3 * stN + 4) (fun gk sv wr => ∃ (sn : Nat) (ts : List TryD) (vs : List Value) (tv : Value), sv = .int .i64 (sn : Int) ∧ Hid (runF p s.data.toList aN gk sn none ts = some R) ∧ Hid (Eng wr (bR + 1) 54 p s.size tv ts vs) ∧ wr.heap[bM]? = some (.cells #[.slice ca p.code.length cc, .int .i64 p.rounds, .bool p.fold, .string s, tv] 58 (0, 0)) ∧ Upd (fun k => bR + 1 ≤ k) wL wr ∧ ts.length + sn ≤ 5001)
        case atStart => exact ⟨stN, [FT], [v], _, rfl, HRUN2, HENG, kM0, Upd.refl _ _, by simp; omega⟩
        case round =>
          clear HENG kM0 HRUN2
          obtain ⟨sn, ts, vs, tv, rfl, hrun, heng, kM, hW0, htl⟩ := hrel
          have HRUNR := Lib.hid hrun.out
          have HENGR := Lib.hid heng.out
          have kPR := And.intro (hW0.heap HKPR.out.1 (show ¬ bR + 1 ≤ bP by omega)) (hW0.heap HKPR.out.2 (show ¬ bR + 1 ≤ bR by omega))
          obtain ⟨kP, kR⟩ := kPR
          have hzB : bR + 1 ≤ wr.heap.size := Nat.le_trans hbB hW0.size
          obtain ⟨f, rfl⟩ : ∃ f, gk = f + 1 := by
            cases gk with
            | zero => have := hrun.out; unfold runF at this; cases this
            | succ f => exact ⟨f, rfl⟩
          rcases List.eq_nil_or_concat ts with rfl | ⟨L, b, rfl⟩
          · have HEND := Lib.hid (runF_end hrun.out)
            obtain ⟨ta, tc, rfl⟩ : ∃ a c, tv = .slice a 0 c := by
              rcases heng.out.own.2 with ⟨rfl, _⟩ | ⟨g, cap, cur, rfl, _⟩
              · exact ⟨none, 0, rfl⟩
              · exact ⟨_, cap, rfl⟩
            clear hrun heng HRUNR HENGR
            have cM := cells_of kM; (try simp only [progC, instC, zzT, zzO, zzS] at cM); have fM := frees_of kM; have cP := cells_of kP; (try simp only [progC, instC, zzT, zzO, zzS] at cP); have fP := frees_of kP; have cR := cells_of kR; (try simp only [progC, instC, zzT, zzO, zzS] at cR); have fR := frees_of kR
            have hU0 := HU9.out.then hW0 (fun k hk (e : bR + 1 ≤ k) => by omega)
            have hz := hU0.size
            go_wp2_with (first
              | ((with_reducible refine stopSt 24 _ _ rfl ?_); unfold Stop; refine wpList_store_blk rfl 24 _ _ rfl _ _ rfl _ (by go_simp; first | done | exact rfl) _ _ _ kR (zzB rfl) (by kernel_rfl) rfl (by simp only [spl, progC, instC, Value.cells, zzT, zzO, zzS, Array.toList]; exact rfl) ?_; intro wn kn hUn hsn; clear cR fR; replace kR := kn; replace hU0 := hU0.then hUn (fun i hi (e : i = _) => by first | exact e | exact absurd hi (by omega) | (subst e; first | assumption | (show _ ≤ _; omega)) | exact .inl e | exact .inr e | exact .inr (.inl e) | exact .inr (.inr e)); replace hz := Nat.le_trans hz (Nat.le_of_eq hsn.symm); clear kn hUn hsn; have cR := cells_of kR; (try simp only [progC, instC, zzT, zzO, zzS] at cR); have fR := frees_of kR))
            exact bodyPost_ret (v := .tuple #[.agg _, .int .i64 _, .bool _, .int .u16 _]) (results_blk_tmp3 Try.results14 _ _ bR 24 _ (0, 0) _ _ _ _ rfl rfl rfl rfl kR Try.underlying24 rfl (by kernel_rfl)) rfl ⟨by rw [HEND.out]; rfl, hU0.old⟩
          · rw [List.concat_eq_append] at hrun heng HRUNR HENGR htl
            obtain ⟨g, c, V, rv, rfl, rfl, hpop⟩ := heng.out.pop
            have HPOP := Lib.hid hpop
            have hLc := hpop.cap
            have hLm := hpop.capm
            have hwr : wrap64 (L.length : Int) = (L.length : Int) := by unfold wrap64; simp at htl; omega
            have HRB := Lib.hid (runF_pop hrun.out)
            have HBS : Hid ((tryC b rv).size = 25) := Lib.hid (try_size _ _ hpop.ok.ok.sl)
            have HBI : Hid ((Try.prog.info? 54).map (·.size) = some (tryC b rv).size) := Lib.hid (by rw [HBS.out]; kernel_rfl)
            have HBL : Hid ((Try.prog.info? 54).map (·.size) = some (tryL b rv).length) := Lib.hid (by rw [tryL_len hpop.ok.ok.sl]; kernel_rfl)
            have HB1 : Hid ((Value.agg (tryC b rv)).cells.toList.all (·.oneCell') = true) := Lib.hid (List.all_eq_true.2 (fun u hu => tryL_one hpop.rd.one u hu))
            have HBP : Hid (spl #[.int .i64 0, .int .i64 0, .int .i64 0, .int .i64 0, .int .i64 0, .int .i64 0, .int .i64 0, .int .i64 0, .int .i64 0, .int .i64 0, .int .i64 0, .int .i64 0, .int .i64 0, .int .i64 0, .int .i64 0, .int .i64 0, .int .i64 0, .int .i64 0, .int .i64 0, .int .i64 0, .int .i64 0, .int .i64 0, .int .i64 0, .int .i64 0, .slice none 0 0] 0 (Value.agg (tryC b rv)).cells.toList = tryC b rv) := Lib.hid (spl_all _ _ (by show (tryL b rv).length = _; rw [tryL_len hpop.ok.ok.sl]; rfl))
            have HBZ : Hid (0 + (Value.agg (tryC b rv)).cells.size ≤ (#[.int .i64 0, .int .i64 0, .int .i64 0, .int .i64 0, .int .i64 0, .int .i64 0, .int .i64 0, .int .i64 0, .int .i64 0, .int .i64 0, .int .i64 0, .int .i64 0, .int .i64 0, .int .i64 0, .int .i64 0, .int .i64 0, .int .i64 0, .int .i64 0, .int .i64 0, .int .i64 0, .int .i64 0, .int .i64 0, .int .i64 0, .int .i64 0, .slice none 0 0] : Array Value).size) := Lib.hid (by show 0 + (tryC b rv).size ≤ _; rw [HBS.out]; decide)
            have hU0 := HU9.out.then hW0 (fun k hk (e : bR + 1 ≤ k) => by omega)
            have hz := hU0.size
            have hX := Upd.refl (fun k => wr.heap.size ≤ k) wr
            clear hrun heng HRUNR HENGR hpop
            have cM := cells_of kM; (try simp only [progC, instC, zzT, zzO, zzS] at cM); have fM := frees_of kM; have cP := cells_of kP; (try simp only [progC, instC, zzT, zzO, zzS] at cP); have fP := frees_of kP; have cR := cells_of kR; (try simp only [progC, instC, zzT, zzO, zzS] at cR); have fR := frees_of kR
            go_upto_region 13 with fail
            rw [hwr]
            clear hwr
            go_upto_block 4 with (first
              | ((with_reducible refine stopLd 54 _ rfl ?_); unfold Stop; refine wpList_load_any rfl 54 _ rfl ⟨g, L.length * 25, none⟩ rfl (tryL b rv) _ HPOP.out.cells Try.underlying54 rfl HBL.out ?_)
              | ((with_reducible refine stopAl 54 rfl ?_); unfold Stop; refine wpList_alloc_blk rfl 54 rfl (.agg #[.int .i64 0, .int .i64 0, .int .i64 0, .int .i64 0, .int .i64 0, .int .i64 0, .int .i64 0, .int .i64 0, .int .i64 0, .int .i64 0, .int .i64 0, .int .i64 0, .int .i64 0, .int .i64 0, .int .i64 0, .int .i64 0, .int .i64 0, .int .i64 0, .int .i64 0, .int .i64 0, .int .i64 0, .int .i64 0, .int .i64 0, .int .i64 0, .slice none 0 0]) (by kernel_rfl) #[.int .i64 0, .int .i64 0, .int .i64 0, .int .i64 0, .int .i64 0, .int .i64 0, .int .i64 0, .int .i64 0, .int .i64 0, .int .i64 0, .int .i64 0, .int .i64 0, .int .i64 0, .int .i64 0, .int .i64 0, .int .i64 0, .int .i64 0, .int .i64 0, .int .i64 0, .int .i64 0, .int .i64 0, .int .i64 0, .int .i64 0, .int .i64 0, .slice none 0 0] rfl ?_; intro bT wn hbn kn hUn hsn; clear cM fM cP fP cR fR; have lMT := heap_lt kM; rw [hbn] at lMT; replace kM := hUn.heap kM (fun h => h); have lPT := heap_lt kP; rw [hbn] at lPT; replace kP := hUn.heap kP (fun h => h); have lRT := heap_lt kR; rw [hbn] at lRT; replace kR := hUn.heap kR (fun h => h); have gT : w.heap.size ≤ bT := Nat.le_trans hU0.size (Nat.le_of_eq hbn); have kT := kn; replace hU0 := hU0.then hUn (fun _ _ h => h.elim); replace hz : w.heap.size ≤ wn.heap.size := (by omega); replace hX := hX.then hUn (fun _ _ h => h.elim); have lrT : wr.heap.size ≤ bT := (by omega); clear kn hUn hsn hbn; have cT := cells_of kT; (try simp only [progC, instC, zzT, zzO, zzS] at cT); have fT := frees_of kT; have cM := cells_of kM; (try simp only [progC, instC, zzT, zzO, zzS] at cM); have fM := frees_of kM; have cP := cells_of kP; (try simp only [progC, instC, zzT, zzO, zzS] at cP); have fP := frees_of kP; have cR := cells_of kR; (try simp only [progC, instC, zzT, zzO, zzS] at cR); have fR := frees_of kR)
              | ((with_reducible refine stopSt 54 _ _ rfl ?_); unfold Stop; refine wpList_store_blk rfl 54 _ _ rfl bT 0 rfl (.agg (tryC b rv)) rfl #[.int .i64 0, .int .i64 0, .int .i64 0, .int .i64 0, .int .i64 0, .int .i64 0, .int .i64 0, .int .i64 0, .int .i64 0, .int .i64 0, .int .i64 0, .int .i64 0, .int .i64 0, .int .i64 0, .int .i64 0, .int .i64 0, .int .i64 0, .int .i64 0, .int .i64 0, .int .i64 0, .int .i64 0, .int .i64 0, .int .i64 0, .int .i64 0, .slice none 0 0] (tryC b rv) _ kT HBZ.out HBI.out HB1.out HBP.out ?_; intro w3 kT3 hu3 hs3; clear cM fM cP fP cR fR; replace kM := (hu3).heap kM ((by omega)); replace kP := (hu3).heap kP ((by omega)); replace kR := (hu3).heap kR ((by omega)); replace hz := Nat.le_trans hz (hu3).size; replace hU0 := hU0.then hu3 (fun i hi (e : i = bT) => by omega); have cM := cells_of kM; (try simp only [progC, instC, zzT, zzO, zzS] at cM); have fM := frees_of kM; have cP := cells_of kP; (try simp only [progC, instC, zzT, zzO, zzS] at cP); have fP := frees_of kP; have cR := cells_of kR; (try simp only [progC, instC, zzT, zzO, zzS] at cR); have fR := frees_of kR; replace hX := hX.then hu3 (fun i hi (e : i = bT) => by omega); have HCUR := Lib.hid (HPOP.out.cur hX lrT hzB kT3); have HKM := Lib.hid kM)
              | ((with_reducible refine stopSt 56 _ _ rfl ?_); unfold Stop; refine wpList_store_blk rfl 56 _ _ rfl _ _ rfl _ (by go_simp; first | done | exact rfl) _ _ _ kM (zzB rfl) (by kernel_rfl) rfl (by simp only [spl, progC, instC, Value.cells, zzT, zzO, zzS, Array.toList]; exact rfl) ?_; intro wn kn hUn hsn; clear cM fM cP fP cR fR; replace kP := hUn.heap kP (by omega); replace kR := hUn.heap kR (by omega); replace kM := kn; replace hU0 := hU0.then hUn (fun i hi (e : i = _) => by first | exact e | exact absurd hi (by omega) | (subst e; first | assumption | (show _ ≤ _; omega)) | exact .inl e | exact .inr e | exact .inr (.inl e) | exact .inr (.inr e)); replace hz := Nat.le_trans hz (Nat.le_of_eq hsn.symm); have HCU2 := Lib.hid (HCUR.out.mach HKM.out (by decide) (by decide) hUn); have HXW := Lib.hid ((hW0.then hX (fun i hi (e : wr.heap.size ≤ i) => by omega)).then hUn (fun i hi (e : i = bM) => by omega)); clear kn hUn hsn; have cM := cells_of kM; (try simp only [progC, instC, zzT, zzO, zzS] at cM); have fM := frees_of kM; have cP := cells_of kP; (try simp only [progC, instC, zzT, zzO, zzS] at cP); have fP := frees_of kP; have cR := cells_of kR; (try simp only [progC, instC, zzT, zzO, zzS] at cR); have fR := frees_of kR))
            have HRB2 := Lib.hid HRB.out
            have htl3 : L.length + sn ≤ 5001 := by simp at htl; omega
            clear htl HBS HBI HBL HB1 HBP HBZ hX HCUR HKM HPOP hW0 hU0 hz kT3 lMT lPT lRT hs3 cP fP cR fR cM fM HRB hLc hLm hzB
            go_wp2_with fail
            go_simp
            go_loopg [3] f (fun gk sv wr => ∃ (s2 : Nat) (t2 : TryD) (rv2 : Value) (ts2 : List TryD) (vs2 : List Value) (tv2 : Value), sv = .int .i64 (s2 : Int) ∧ gk ≤ f ∧ Hid (runF p s.data.toList aN gk s2 (some t2) ts2 = some R) ∧ Hid (Cur wr (bR + 1) bT 54 p s.size tv2 t2 rv2 ts2 vs2) ∧ wr.heap[bM]? = some (.cells #[.slice ca p.code.length cc, .int .i64 p.rounds, .bool p.fold, .string s, tv2] 58 (0, 0)) ∧ Upd (fun k => bR + 1 ≤ k) wL wr ∧ ts2.length + s2 ≤ 5001)
            case atStart => exact ⟨sn, b, rv, L, V, _, rfl, Nat.le_refl _, HRB2, HCU2, kM, HXW.out, htl3⟩
            case round =>
              clear HCU2 kM HXW kP kR HRB2
              obtain ⟨s2, t2, rv2, ts2, vs2, tv2, rfl, hgf, hrun, hcur, kM, hW2, htl2⟩ := hrel
              have hPR2 := And.intro (hW2.heap HKPR.out.1 (show ¬ bR + 1 ≤ bP by omega)) (hW2.heap HKPR.out.2 (show ¬ bR + 1 ≤ bR by omega))
              obtain ⟨kP, kR⟩ := hPR2
              have hzB : bR + 1 ≤ wr.heap.size := Nat.le_trans hbB hW2.size
              obtain ⟨f2, rfl⟩ : ∃ f2, gk = f2 + 1 := by
                cases gk with
                | zero => have := hrun.out; unfold runF at this; cases this
                | succ f => exact ⟨f, rfl⟩
              have hU0 := HU9.out.then hW2 (fun k hk (e : bR + 1 ≤ k) => by omega)
              have hz := hU0.size
              have cT := cell_of hcur.out.blk 0 (try_pc t2 rv2)
              have cM := cells_of kM; (try simp only [progC, instC, zzT, zzO, zzS] at cM); have fM := frees_of kM; have cP := cells_of kP; (try simp only [progC, instC, zzT, zzO, zzS] at cP); have fP := frees_of kP; have cR := cells_of kR; (try simp only [progC, instC, zzT, zzO, zzS] at cR); have fR := frees_of kR
              by_cases hpc : t2.pc < p.code.length
              · have gpc : (t2.pc : Int) < (p.code.length : Int) := by omega
                have gpc0 : (0 : Int) ≤ (t2.pc : Int) := by omega
                obtain ⟨i, hi⟩ : ∃ i, p.code[t2.pc]? = some i := ⟨_, List.getElem?_eq_getElem hpc⟩
                cases s2 with
                | zero =>
                  have HEND := Lib.hid (runF_step0 hrun.out hi)
                  clear hi hrun hcur
                  go_wp2_with (first
                    | ((with_reducible refine stopSt 24 _ _ rfl ?_); unfold Stop; refine wpList_store_blk rfl 24 _ _ rfl _ _ rfl _ (by go_simp; first | done | exact rfl) _ _ _ kR (zzB rfl) (by kernel_rfl) rfl (by simp only [spl, progC, instC, Value.cells, zzT, zzO, zzS, Array.toList]; exact rfl) ?_; intro wn kn hUn hsn; clear cR fR; replace kR := kn; replace hU0 := hU0.then hUn (fun i hi (e : i = _) => by first | exact e | exact absurd hi (by omega) | (subst e; first | assumption | (show _ ≤ _; omega)) | exact .inl e | exact .inr e | exact .inr (.inl e) | exact .inr (.inr e)); replace hz := Nat.le_trans hz (Nat.le_of_eq hsn.symm); clear kn hUn hsn; have cR := cells_of kR; (try simp only [progC, instC, zzT, zzO, zzS] at cR); have fR := frees_of kR))
                  exact bodyPost_ret (v := .tuple #[.agg _, .int .i64 _, .bool _, .int .u16 _]) (results_blk_tmp3 Try.results14 _ _ bR 24 _ (0, 0) _ _ _ _ rfl rfl rfl rfl kR Try.underlying24 rfl (by kernel_rfl)) rfl ⟨by rw [HEND.out]; rfl, hU0.old⟩
                | succ s2 =>
                  obtain ⟨A, hA, hAb, hAc⟩ := (HC.out.newer hU0) t2.pc hpc
                  rw [show p.code[t2.pc] = i by rw [List.getElem?_eq_getElem hpc] at hi; exact Option.some.inj hi] at hAc
                  have HAC := Lib.hid hAc
                  have HII := Lib.hid hi
                  clear hAc hi
                  subst hA
                  have hws := wrap_nat64 (n := s2) (by omega)
                  have g0 := succ_ne0 s2
                  have hX := Upd.refl (fun k => wr.heap.size ≤ k) wr
                  have lrR := heap_lt kR
                  go_upto_region 19 with fail
                  rw [hws]
                  clear hws g0
                  go_upto_region 20 with (first
                    | ((with_reducible refine stopLd 63 _ rfl ?_); unfold Stop; refine wpList_load_any rfl 63 _ rfl (A.add (t2.pc * 8)) rfl (instC i) _ HAC.out Try.underlying63 rfl (by kernel_rfl) ?_; unfold instC)
                    | ((with_reducible refine stopAl 63 rfl ?_); unfold Stop; refine wpList_alloc_blk rfl 63 rfl (.agg #[.int .u8 0, .int .u8 0, .int .u64 0, .int .u64 0, .int .u64 0, .int .u64 0, .int .i64 0, .int .i64 0]) (by kernel_rfl) #[.int .u8 0, .int .u8 0, .int .u64 0, .int .u64 0, .int .u64 0, .int .u64 0, .int .i64 0, .int .i64 0] rfl ?_; intro bI wn hbn kn hUn hsn; clear cM fM cP fP cR fR; have lMI := heap_lt kM; rw [hbn] at lMI; replace kM := hUn.heap kM (fun h => h); have lPI := heap_lt kP; rw [hbn] at lPI; replace kP := hUn.heap kP (fun h => h); have lRI := heap_lt kR; rw [hbn] at lRI; replace kR := hUn.heap kR (fun h => h); have gI : w.heap.size ≤ bI := Nat.le_trans hU0.size (Nat.le_of_eq hbn); have kI := kn; replace hU0 := hU0.then hUn (fun _ _ h => h.elim); replace hz : w.heap.size ≤ wn.heap.size := (by omega); replace hX := hX.then hUn (fun _ _ h => h.elim); have lrI : wr.heap.size ≤ bI := (by omega); clear kn hUn hsn hbn; have cI := cells_of kI; (try simp only [progC, instC, zzT, zzO, zzS] at cI); have fI := frees_of kI; have cM := cells_of kM; (try simp only [progC, instC, zzT, zzO, zzS] at cM); have fM := frees_of kM; have cP := cells_of kP; (try simp only [progC, instC, zzT, zzO, zzS] at cP); have fP := frees_of kP; have cR := cells_of kR; (try simp only [progC, instC, zzT, zzO, zzS] at cR); have fR := frees_of kR)
                    | ((with_reducible refine stopSt 63 _ _ rfl ?_); unfold Stop; refine wpList_store_blk rfl 63 _ _ rfl _ _ rfl _ (by go_simp; first | done | exact rfl) _ _ _ kI (zzB rfl) (by kernel_rfl) rfl (by simp only [spl, progC, instC, Value.cells, zzT, zzO, zzS, Array.toList]; exact rfl) ?_; intro wn kn hUn hsn; clear cI fI cM fM cP fP cR fR; replace kM := hUn.heap kM (by omega); replace kP := hUn.heap kP (by omega); replace kR := hUn.heap kR (by omega); replace kI := kn; replace hU0 := hU0.then hUn (fun i hi (e : i = _) => by first | exact e | exact absurd hi (by omega) | (subst e; first | assumption | (show _ ≤ _; omega)) | exact .inl e | exact .inr e | exact .inr (.inl e) | exact .inr (.inr e)); replace hz := Nat.le_trans hz (Nat.le_of_eq hsn.symm); replace hX := hX.then hUn (fun i hi (e : i = bI) => by omega); clear kn hUn hsn; have cI := cells_of kI; (try simp only [progC, instC, zzT, zzO, zzS] at cI); have fI := frees_of kI; have cM := cells_of kM; (try simp only [progC, instC, zzT, zzO, zzS] at cM); have fM := frees_of kM; have cP := cells_of kP; (try simp only [progC, instC, zzT, zzO, zzS] at cP); have fP := frees_of kP; have cR := cells_of kR; (try simp only [progC, instC, zzT, zzO, zzS] at cR); have fR := frees_of kR))
                  by_cases h14 : i.op = 14
                  · have g14 : (i.op == 14) = true := by simpa using h14
                    have HEND := Lib.hid (runF_match hrun.out HII.out h14)
                    have HTN := Lib.hid (hcur.out.newer hX)
                    have HTO := Lib.hid hcur.out.ok.ok
                    clear hrun hcur
                    obtain ⟨D, hD⟩ : ∃ D, matchC (matchF t2 aN) = D := ⟨_, rfl⟩
                    have HDS : Hid (D.size = 22) := Lib.hid (by rw [← hD, ← partM_nine t2 aN]; exact match_size _ (partM_blen t2 aN 9) (partM_elen t2 aN 9))
                    have HD1 : Hid (D.toList.all (·.oneCell') = true) := Lib.hid (by rw [← hD]; exact match_one _)
                    have HD := Lib.hid hD
                    clear hD
                    have HDI : Hid ((Try.prog.info? 24).map (·.size) = some D.size) := Lib.hid (by rw [HDS.out]; kernel_rfl)
                    have HDP : Hid (spl #[.int .i64 0, .int .i64 0, .int .i64 0, .int .i64 0, .int .i64 0, .int .i64 0, .int .i64 0, .int .i64 0, .int .i64 0, .int .i64 0, .int .i64 0, .int .i64 0, .int .i64 0, .int .i64 0, .int .i64 0, .int .i64 0, .int .i64 0, .int .i64 0, .int .i64 0, .int .i64 0, .int .i64 0, .int .i64 0] 0 D.toList = D) := Lib.hid (spl_all _ _ (by rw [Array.length_toList, HDS.out]; rfl))
                    have HDL : Hid (0 + D.size ≤ (#[.int .i64 0, .int .i64 0, .int .i64 0, .int .i64 0, .int .i64 0, .int .i64 0, .int .i64 0, .int .i64 0, .int .i64 0, .int .i64 0, .int .i64 0, .int .i64 0, .int .i64 0, .int .i64 0, .int .i64 0, .int .i64 0, .int .i64 0, .int .i64 0, .int .i64 0, .int .i64 0, .int .i64 0, .int .i64 0] : Array Value).size) := Lib.hid (by rw [HDS.out]; decide)
                    go_wp2_with (first
                      | (go_at_call 26; refine (match_any bT s.size rv2 t2 aN HTO.out ha hs0 HTN.out.blk).mono ?_; rintro e w5 ⟨rfl, hu5⟩; rw [HD.out]; clear cI fI cM fM cP fP cR fR; replace kI := (hu5).heap kI (fun h => h); replace kM := (hu5).heap kM (fun h => h); replace kP := (hu5).heap kP (fun h => h); replace kR := (hu5).heap kR (fun h => h); replace hz := Nat.le_trans hz (hu5).size; replace hU0 := hU0.then hu5 (fun _ _ h => h.elim); have cI := cells_of kI; (try simp only [progC, instC, zzT, zzO, zzS] at cI); have fI := frees_of kI; have cM := cells_of kM; (try simp only [progC, instC, zzT, zzO, zzS] at cM); have fM := frees_of kM; have cP := cells_of kP; (try simp only [progC, instC, zzT, zzO, zzS] at cP); have fP := frees_of kP; have cR := cells_of kR; (try simp only [progC, instC, zzT, zzO, zzS] at cR); have fR := frees_of kR; clear hu5)
                      | ((with_reducible refine stopSt 24 _ _ rfl ?_); unfold Stop; refine wpList_store_blk rfl 24 _ _ rfl bR 0 rfl (.agg D) rfl #[.int .i64 0, .int .i64 0, .int .i64 0, .int .i64 0, .int .i64 0, .int .i64 0, .int .i64 0, .int .i64 0, .int .i64 0, .int .i64 0, .int .i64 0, .int .i64 0, .int .i64 0, .int .i64 0, .int .i64 0, .int .i64 0, .int .i64 0, .int .i64 0, .int .i64 0, .int .i64 0, .int .i64 0, .int .i64 0] D _ kR HDL.out HDI.out HD1.out HDP.out ?_; intro w6 k6 hu6 hs6))
                    exact bodyPost_ret (v := .tuple #[.agg _, .int .i64 _, .bool _, .int .u16 _]) (results_blk_tmp3 Try.results14 _ _ bR 24 _ (0, 0) _ _ _ _ rfl rfl rfl rfl k6 Try.underlying24 rfl HDI.out) rfl ⟨by rw [HEND.out, ← HD.out]; rfl, (hU0.then hu6 (fun i hi (e : i = bR) => by omega)).old⟩
                  · have g14 : (i.op == 14) = false := by simpa using h14
                    have HST := Lib.hid (fun (w' : World) (hX : Upd (fun k => wr.heap.size ≤ k) wr w') (kM' : w'.heap[bM]? = some (.cells #[.slice (some A) p.code.length cc, .int .i64 p.rounds, .bool p.fold, .string s, tv2] 58 (0, 0))) => step_run bM bT (bR + 1) (.slice (some A) p.code.length cc) tv2 rv2 p s t2 i ts2 vs2 HS.out HII.out h14 hs0 (by omega) (Nat.le_trans hzB hX.size) (by omega) (hcur.out.newer hX) kM')
                    have HWX : Hid (Upd (fun k => bR + 1 ≤ k) wL _) := Lib.hid (hW2.then hX (fun i hi (e : wr.heap.size ≤ i) => by omega))
                    have HXX := Lib.hid hX
                    have HKM := Lib.hid kM
                    cases hq : stepF p.fold s.data.toList t2 i ts2 with
                    | none =>
                      have HF := Lib.hid (runF_fail hrun.out HII.out h14 hq)
                      rw [hq] at HST
                      clear hrun hcur hq hX lrR cM fM
                      go_wp2_with (first
                        | ((with_reducible refine stopLd 63 _ rfl ?_); unfold Stop; refine wpList_load_row rfl 63 _ rfl _ rfl 63 _ (0, 0) _ kI Try.underlying63 rfl (by kernel_rfl) ?_)
                        | (go_at_call 27; refine (HST.out _ HXX.out HKM.out).mono ?_; rintro e w6 hpo; obtain ⟨hu6, rfl, heng6, kM6⟩ := hpo))
                      go_roundg f2
                      case measure => omega
                      case rel => exact ⟨s2, ts2, vs2, tv2, rfl, HF, Lib.hid heng6, kM6, HWX.out.then hu6 (fun _ _ e => e), by omega⟩
                    | some q =>
                      obtain ⟨t3, ts3⟩ := q
                      have hl3 := stepF_len hq
                      have HF := Lib.hid (runF_go hrun.out HII.out h14 hq)
                      rw [hq] at HST
                      clear hrun hcur hq hX lrR cM fM
                      go_wp2_with (first
                        | ((with_reducible refine stopLd 63 _ rfl ?_); unfold Stop; refine wpList_load_row rfl 63 _ rfl _ rfl 63 _ (0, 0) _ kI Try.underlying63 rfl (by kernel_rfl) ?_)
                        | (go_at_call 27; refine (HST.out _ HXX.out HKM.out).mono ?_; rintro e w6 hpo; obtain ⟨hu6, rfl, tv3, rv3, vs3, hcur6, kM6⟩ := hpo))
                      go_roundg f2
                      case measure => omega
                      case rel => exact ⟨s2, t3, rv3, ts3, vs3, tv3, rfl, by omega, HF, Lib.hid hcur6, kM6, HWX.out.then hu6 (fun _ _ e => e), by omega⟩
              · have gpc : ¬ (t2.pc : Int) < (p.code.length : Int) := by omega
                have HP := Lib.hid (runF_past hrun.out (by omega))
                have HE2 := Lib.hid hcur.out.eng
                clear hrun hcur
                go_wp2_with fail
                go_roundg f2
                case measure => omega
                case rel => exact ⟨s2, ts2, vs2, tv2, rfl, HP, HE2, kM, hW2, htl2⟩
end Go.Proofs.Ytigbfgmgdfnhcaa
