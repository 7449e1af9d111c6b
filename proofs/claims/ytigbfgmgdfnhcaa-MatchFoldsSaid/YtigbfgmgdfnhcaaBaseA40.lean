/- Lemmas that the law's proof stands on, part 40: From. No condition. -/
import Derived.Test.YtigbfgmgdfnhcaaBaseA0
import Derived.Test.YtigbfgmgdfnhcaaBaseA38
import Derived.Test.YtigbfgmgdfnhcaaBaseA39
set_option linter.all false
set_option linter.unusedVariables false
set_option linter.unusedSimpArgs false
namespace Go.Proofs.Ytigbfgmgdfnhcaa
open Go.RowKit
theorem runF_len (p : ProgD) (l : List UInt8) (a : Nat) : ∀ (f st : Nat) (c : Option TryD) (ts : List TryD) (R : ResD), runF p l a f st c ts = some R → R.m.beg.length = 10 ∧ R.m.end_.length = 10
  | 0, st, c, ts, R, h => by unfold runF at h; cases h
  | f + 1, st, none, ts, R, h => by
    unfold runF at h
    split at h
    · injection h with h; subst h; exact ⟨rfl, rfl⟩
    · exact runF_len p l a f st _ _ R h
  | f + 1, st, some t, ts, R, h => by
    unfold runF at h
    split at h
    · exact runF_len p l a f st _ _ R h
    · split at h
      · injection h with h; subst h; exact ⟨rfl, rfl⟩
      · split at h
        · injection h with h; subst h; rw [← partM_nine]; exact ⟨partM_blen _ _ _, partM_elen _ _ _⟩
        · split at h
          · exact runF_len p l a f _ _ _ R h
          · exact runF_len p l a f _ _ _ R h
theorem atF_len {p : ProgD} {l : List UInt8} {a st : Int} {R : ResD} (h : atF p l a st = some R) : R.m.beg.length = 10 ∧ R.m.end_.length = 10 := by
  unfold atF at h
  split at h
  · injection h with h; subst h; exact ⟨rfl, rfl⟩
  · exact runF_len _ _ _ _ _ _ _ _ h
set_option maxRecDepth 100000 in
set_option maxHeartbeats 8000000 in
theorem from_any {w : World} (p : ProgD) (ca : Option Addr) (cc : Nat) (s : ByteArray) (a st : Int) (hc : CodeR w ca p.code) (hs0 : s.size ≤ 140737488351232) (f : Nat) (R : ResD) (hR : fromF p s.data.toList f a st = some R) :
    Calls Try.prog 20 #[.agg (progC p (.slice ca p.code.length cc)), .string s, .int .i64 a, .int .i64 st] w fun e w' => e = .returned (resV .u16 R) ∧ Upd (fun _ => False) w w' := by
  have hU0 := Upd.refl (fun k => w.heap.size ≤ k) w
  have hz := Nat.le_refl w.heap.size
  have HC := Lib.hid hc
  have HR := Lib.hid hR
  have HL : Hid (s.data.toList.length = s.size) := Lib.hid (by simp)
  clear hc hR
  unfold progC
  go_enter Try.func20, Try.ntmps20
  go_upto_region 1 with (first
    | ((with_reducible refine stopBx 31 _ rfl ?_); unfold Stop; refine wpList_box_blk rfl 31 _ rfl _ (by go_simp; first | done | exact rfl) #[.slice ca p.code.length cc, .int .i64 p.rounds, .bool p.fold] rfl ?_; intro bP wn hbn kn hUn hsn; have gP : w.heap.size ≤ bP := Nat.le_trans hU0.size (Nat.le_of_eq hbn); have kP := kn; replace hU0 := hU0.then hUn (fun _ _ h => h.elim); replace hz : w.heap.size ≤ wn.heap.size := (by omega); clear kn hUn hsn hbn; have cP := cells_of kP; (try simp only [progC, zzT, zzO, zzS] at cP); have fP := frees_of kP)
    | ((with_reducible refine stopAl 24 rfl ?_); unfold Stop; refine wpList_alloc_blk rfl 24 rfl (.agg #[.int .i64 0, .int .i64 0, .int .i64 0, .int .i64 0, .int .i64 0, .int .i64 0, .int .i64 0, .int .i64 0, .int .i64 0, .int .i64 0, .int .i64 0, .int .i64 0, .int .i64 0, .int .i64 0, .int .i64 0, .int .i64 0, .int .i64 0, .int .i64 0, .int .i64 0, .int .i64 0, .int .i64 0, .int .i64 0]) (by kernel_rfl) #[.int .i64 0, .int .i64 0, .int .i64 0, .int .i64 0, .int .i64 0, .int .i64 0, .int .i64 0, .int .i64 0, .int .i64 0, .int .i64 0, .int .i64 0, .int .i64 0, .int .i64 0, .int .i64 0, .int .i64 0, .int .i64 0, .int .i64 0, .int .i64 0, .int .i64 0, .int .i64 0, .int .i64 0, .int .i64 0] rfl ?_; intro bR wn hbn kn hUn hsn; clear cP fP; have lPR := heap_lt kP; rw [hbn] at lPR; replace kP := hUn.heap kP (fun h => h); have gR : w.heap.size ≤ bR := Nat.le_trans hU0.size (Nat.le_of_eq hbn); have kR := kn; replace hU0 := hU0.then hUn (fun _ _ h => h.elim); replace hz : w.heap.size ≤ wn.heap.size := (by omega); clear kn hUn hsn hbn; have cR := cells_of kR; (try simp only [progC, zzT, zzO, zzS] at cR); have fR := frees_of kR; have cP := cells_of kP; (try simp only [progC, zzT, zzO, zzS] at cP); have fP := frees_of kP))
  have hPR : bP < bR := lPR
  clear lPR
  have HKPR := Lib.hid (And.intro kP kR)
  have HU9 := Lib.hid hU0
  have hbR := heap_lt kR
  obtain ⟨wL, rfl⟩ : ∃ wL, wL = wn := ⟨_, rfl⟩
  clear cP fP cR fR kP kR hU0 hz
  go_wp2_with fail
  go_simp
  go_loopg [3, 12] f (fun gk sv av wr => ∃ (x y : Int), sv = .int .i64 y ∧ av = .int .i64 x ∧ Hid (fromF p s.data.toList gk x y = some R) ∧ Upd (fun _ => False) wL wr)
  case atStart => exact ⟨a, st, rfl, rfl, HR, Upd.refl _ _⟩
  case round =>
    clear HR
    obtain ⟨x, y, rfl, rfl, hrun, hW0⟩ := hrel
    obtain ⟨kP, kR⟩ := And.intro (hW0.heap HKPR.out.1 (fun h => h)) (hW0.heap HKPR.out.2 (fun h => h))
    have hU0 := HU9.out.then hW0 (fun _ _ h => h.elim)
    have hz := hU0.size
    cases gk with
    | zero => have := hrun.out; unfold fromF at this; cases this
    | succ g =>
      obtain ⟨r, hr⟩ := atF_some p s.data.toList x y
      have HAT := Lib.hid (fun (w' : World) (hu : Upd (fun k => w.heap.size ≤ k) w w') => at_any p ca cc s x y (HC.out.newer hu) hs0 r hr)
      have hle := atF_left hr
      have hlen := atF_len hr
      have hq := hrun.out
      unfold fromF at hq
      rw [hr] at hq
      simp only [HL.out] at hq hle
      clear hrun hr
      obtain ⟨m, left, is, err⟩ := r
      simp only [] at hq hle hlen
      obtain ⟨D, hD⟩ : ∃ D, matchC m = D := ⟨_, rfl⟩
      have HDS : Hid (D.size = 22) := Lib.hid (by rw [← hD]; exact match_size _ hlen.1 hlen.2)
      have HD1 : Hid (D.toList.all (·.oneCell') = true) := Lib.hid (by rw [← hD]; exact match_one _)
      have HDI : Hid ((Try.prog.info? 24).map (·.size) = some D.size) := Lib.hid (by rw [HDS.out]; kernel_rfl)
      have HDP : Hid (spl #[.int .i64 0, .int .i64 0, .int .i64 0, .int .i64 0, .int .i64 0, .int .i64 0, .int .i64 0, .int .i64 0, .int .i64 0, .int .i64 0, .int .i64 0, .int .i64 0, .int .i64 0, .int .i64 0, .int .i64 0, .int .i64 0, .int .i64 0, .int .i64 0, .int .i64 0, .int .i64 0, .int .i64 0, .int .i64 0] 0 D.toList = D) := Lib.hid (spl_all _ _ (by rw [Array.length_toList, HDS.out]; rfl))
      have HDL : Hid (0 + D.size ≤ (#[.int .i64 0, .int .i64 0, .int .i64 0, .int .i64 0, .int .i64 0, .int .i64 0, .int .i64 0, .int .i64 0, .int .i64 0, .int .i64 0, .int .i64 0, .int .i64 0, .int .i64 0, .int .i64 0, .int .i64 0, .int .i64 0, .int .i64 0, .int .i64 0, .int .i64 0, .int .i64 0, .int .i64 0, .int .i64 0] : Array Value).size) := Lib.hid (by rw [HDS.out]; decide)
      unfold resV at HAT
      simp only [hD] at HAT
      have HD := Lib.hid hD
      clear hD hlen
      have cP := cells_of kP; (try simp only [progC, zzT, zzO, zzS] at cP); have fP := frees_of kP; have cR := cells_of kR; (try simp only [progC, zzT, zzO, zzS] at cR); have fR := frees_of kR
      by_cases hstop : err ≠ 0 ∨ is = true ∨ x = s.size
      · rw [if_pos hstop] at hq
        have HRR := Lib.hid (Option.some.inj hq)
        clear hq hle
        rcases (show err ≠ 0 ∨ (err = 0 ∧ is = true) ∨ (err = 0 ∧ is = false ∧ x = s.size) by
          by_cases h0 : err = 0
          · cases is
            · exact .inr (.inr ⟨h0, rfl, by rcases hstop with h | h | h; exact absurd h0 h; cases h; exact h⟩)
            · exact .inr (.inl ⟨h0, rfl⟩)
          · exact .inl h0) with h0 | ⟨rfl, rfl⟩ | ⟨rfl, rfl, rfl⟩
        all_goals clear hstop
        · have g0 : (err != 0) = true := by simpa using h0
          go_wp2_with (first
            | ((with_reducible refine stopLd 31 _ rfl ?_); unfold Stop; refine wpList_load_row rfl 31 _ rfl _ rfl 31 _ (0, 0) _ kP Try.underlying31 rfl (by kernel_rfl) ?_)
            | (go_at_call 14; refine (HAT.out _ hU0).mono ?_; rintro e w5 ⟨rfl, hq⟩; clear cP fP cR fR; replace kP := (hq).heap kP (fun h => h); replace kR := (hq).heap kR (fun h => h); replace hz := Nat.le_trans hz (hq).size; replace hU0 := hU0.then hq (fun _ _ h => h.elim); have cP := cells_of kP; (try simp only [progC, zzT, zzO, zzS] at cP); have fP := frees_of kP; have cR := cells_of kR; (try simp only [progC, zzT, zzO, zzS] at cR); have fR := frees_of kR; clear hq)
            | ((with_reducible refine stopAl 24 rfl ?_); unfold Stop; refine wpList_alloc_blk rfl 24 rfl (.agg #[.int .i64 0, .int .i64 0, .int .i64 0, .int .i64 0, .int .i64 0, .int .i64 0, .int .i64 0, .int .i64 0, .int .i64 0, .int .i64 0, .int .i64 0, .int .i64 0, .int .i64 0, .int .i64 0, .int .i64 0, .int .i64 0, .int .i64 0, .int .i64 0, .int .i64 0, .int .i64 0, .int .i64 0, .int .i64 0]) (by kernel_rfl) #[.int .i64 0, .int .i64 0, .int .i64 0, .int .i64 0, .int .i64 0, .int .i64 0, .int .i64 0, .int .i64 0, .int .i64 0, .int .i64 0, .int .i64 0, .int .i64 0, .int .i64 0, .int .i64 0, .int .i64 0, .int .i64 0, .int .i64 0, .int .i64 0, .int .i64 0, .int .i64 0, .int .i64 0, .int .i64 0] rfl ?_; intro bX wn hbn kn hUn hsn; clear cP fP cR fR; have lPX := heap_lt kP; rw [hbn] at lPX; replace kP := hUn.heap kP (fun h => h); have lRX := heap_lt kR; rw [hbn] at lRX; replace kR := hUn.heap kR (fun h => h); have gX : w.heap.size ≤ bX := Nat.le_trans hU0.size (Nat.le_of_eq hbn); have kX := kn; replace hU0 := hU0.then hUn (fun _ _ h => h.elim); replace hz : w.heap.size ≤ wn.heap.size := (by omega); clear kn hUn hsn hbn; have cX := cells_of kX; (try simp only [progC, zzT, zzO, zzS] at cX); have fX := frees_of kX; have cP := cells_of kP; (try simp only [progC, zzT, zzO, zzS] at cP); have fP := frees_of kP; have cR := cells_of kR; (try simp only [progC, zzT, zzO, zzS] at cR); have fR := frees_of kR)
            | ((with_reducible refine stopSt 24 _ _ rfl ?_); unfold Stop; refine wpList_store_blk rfl 24 _ _ rfl bX 0 rfl (.agg D) rfl #[.int .i64 0, .int .i64 0, .int .i64 0, .int .i64 0, .int .i64 0, .int .i64 0, .int .i64 0, .int .i64 0, .int .i64 0, .int .i64 0, .int .i64 0, .int .i64 0, .int .i64 0, .int .i64 0, .int .i64 0, .int .i64 0, .int .i64 0, .int .i64 0, .int .i64 0, .int .i64 0, .int .i64 0, .int .i64 0] D _ kX HDL.out HDI.out HD1.out HDP.out ?_; intro w6 k6 hu6 hs6; clear cP fP cR fR; replace kP := (hu6).heap kP ((by omega)); replace kR := (hu6).heap kR ((by omega)); replace hz := Nat.le_trans hz (hu6).size; replace hU0 := hU0.then hu6 (fun i hi (e : i = bX) => by omega); have cP := cells_of kP; (try simp only [progC, zzT, zzO, zzS] at cP); have fP := frees_of kP; have cR := cells_of kR; (try simp only [progC, zzT, zzO, zzS] at cR); have fR := frees_of kR)
            | ((with_reducible refine stopLd 24 _ rfl ?_); unfold Stop; refine wpList_load_row rfl 24 _ rfl _ rfl 24 _ (0, 0) _ k6 Try.underlying24 rfl HDI.out ?_)
            | ((with_reducible refine stopSt 24 _ _ rfl ?_); unfold Stop; refine wpList_store_blk rfl 24 _ _ rfl bR 0 rfl (.agg D) rfl #[.int .i64 0, .int .i64 0, .int .i64 0, .int .i64 0, .int .i64 0, .int .i64 0, .int .i64 0, .int .i64 0, .int .i64 0, .int .i64 0, .int .i64 0, .int .i64 0, .int .i64 0, .int .i64 0, .int .i64 0, .int .i64 0, .int .i64 0, .int .i64 0, .int .i64 0, .int .i64 0, .int .i64 0, .int .i64 0] D _ kR HDL.out HDI.out HD1.out HDP.out ?_; intro w7 k7 hu7 hs7))
          exact bodyPost_ret (v := .tuple #[.agg _, .int .i64 _, .bool _, .int .u16 _]) (results_blk_tmp3 Try.results20 _ _ bR 24 _ (0, 0) _ _ _ _ rfl rfl rfl rfl k7 Try.underlying24 rfl HDI.out) rfl ⟨by rw [← HRR.out, ← HD.out]; rfl, (hU0.then hu7 (fun i hi (e : i = bR) => by omega)).old⟩
        · go_wp2_with (first
            | ((with_reducible refine stopLd 31 _ rfl ?_); unfold Stop; refine wpList_load_row rfl 31 _ rfl _ rfl 31 _ (0, 0) _ kP Try.underlying31 rfl (by kernel_rfl) ?_)
            | (go_at_call 14; refine (HAT.out _ hU0).mono ?_; rintro e w5 ⟨rfl, hq⟩; clear cP fP cR fR; replace kP := (hq).heap kP (fun h => h); replace kR := (hq).heap kR (fun h => h); replace hz := Nat.le_trans hz (hq).size; replace hU0 := hU0.then hq (fun _ _ h => h.elim); have cP := cells_of kP; (try simp only [progC, zzT, zzO, zzS] at cP); have fP := frees_of kP; have cR := cells_of kR; (try simp only [progC, zzT, zzO, zzS] at cR); have fR := frees_of kR; clear hq)
            | ((with_reducible refine stopAl 24 rfl ?_); unfold Stop; refine wpList_alloc_blk rfl 24 rfl (.agg #[.int .i64 0, .int .i64 0, .int .i64 0, .int .i64 0, .int .i64 0, .int .i64 0, .int .i64 0, .int .i64 0, .int .i64 0, .int .i64 0, .int .i64 0, .int .i64 0, .int .i64 0, .int .i64 0, .int .i64 0, .int .i64 0, .int .i64 0, .int .i64 0, .int .i64 0, .int .i64 0, .int .i64 0, .int .i64 0]) (by kernel_rfl) #[.int .i64 0, .int .i64 0, .int .i64 0, .int .i64 0, .int .i64 0, .int .i64 0, .int .i64 0, .int .i64 0, .int .i64 0, .int .i64 0, .int .i64 0, .int .i64 0, .int .i64 0, .int .i64 0, .int .i64 0, .int .i64 0, .int .i64 0, .int .i64 0, .int .i64 0, .int .i64 0, .int .i64 0, .int .i64 0] rfl ?_; intro bX wn hbn kn hUn hsn; clear cP fP cR fR; have lPX := heap_lt kP; rw [hbn] at lPX; replace kP := hUn.heap kP (fun h => h); have lRX := heap_lt kR; rw [hbn] at lRX; replace kR := hUn.heap kR (fun h => h); have gX : w.heap.size ≤ bX := Nat.le_trans hU0.size (Nat.le_of_eq hbn); have kX := kn; replace hU0 := hU0.then hUn (fun _ _ h => h.elim); replace hz : w.heap.size ≤ wn.heap.size := (by omega); clear kn hUn hsn hbn; have cX := cells_of kX; (try simp only [progC, zzT, zzO, zzS] at cX); have fX := frees_of kX; have cP := cells_of kP; (try simp only [progC, zzT, zzO, zzS] at cP); have fP := frees_of kP; have cR := cells_of kR; (try simp only [progC, zzT, zzO, zzS] at cR); have fR := frees_of kR)
            | ((with_reducible refine stopSt 24 _ _ rfl ?_); unfold Stop; refine wpList_store_blk rfl 24 _ _ rfl bX 0 rfl (.agg D) rfl #[.int .i64 0, .int .i64 0, .int .i64 0, .int .i64 0, .int .i64 0, .int .i64 0, .int .i64 0, .int .i64 0, .int .i64 0, .int .i64 0, .int .i64 0, .int .i64 0, .int .i64 0, .int .i64 0, .int .i64 0, .int .i64 0, .int .i64 0, .int .i64 0, .int .i64 0, .int .i64 0, .int .i64 0, .int .i64 0] D _ kX HDL.out HDI.out HD1.out HDP.out ?_; intro w6 k6 hu6 hs6; clear cP fP cR fR; replace kP := (hu6).heap kP ((by omega)); replace kR := (hu6).heap kR ((by omega)); replace hz := Nat.le_trans hz (hu6).size; replace hU0 := hU0.then hu6 (fun i hi (e : i = bX) => by omega); have cP := cells_of kP; (try simp only [progC, zzT, zzO, zzS] at cP); have fP := frees_of kP; have cR := cells_of kR; (try simp only [progC, zzT, zzO, zzS] at cR); have fR := frees_of kR)
            | ((with_reducible refine stopLd 24 _ rfl ?_); unfold Stop; refine wpList_load_row rfl 24 _ rfl _ rfl 24 _ (0, 0) _ k6 Try.underlying24 rfl HDI.out ?_)
            | ((with_reducible refine stopSt 24 _ _ rfl ?_); unfold Stop; refine wpList_store_blk rfl 24 _ _ rfl bR 0 rfl (.agg D) rfl #[.int .i64 0, .int .i64 0, .int .i64 0, .int .i64 0, .int .i64 0, .int .i64 0, .int .i64 0, .int .i64 0, .int .i64 0, .int .i64 0, .int .i64 0, .int .i64 0, .int .i64 0, .int .i64 0, .int .i64 0, .int .i64 0, .int .i64 0, .int .i64 0, .int .i64 0, .int .i64 0, .int .i64 0, .int .i64 0] D _ kR HDL.out HDI.out HD1.out HDP.out ?_; intro w7 k7 hu7 hs7))
          exact bodyPost_ret (v := .tuple #[.agg _, .int .i64 _, .bool _, .int .u16 _]) (results_blk_tmp3 Try.results20 _ _ bR 24 _ (0, 0) _ _ _ _ rfl rfl rfl rfl k7 Try.underlying24 rfl HDI.out) rfl ⟨by rw [← HRR.out, ← HD.out]; rfl, (hU0.then hu7 (fun i hi (e : i = bR) => by omega)).old⟩
        · go_wp2_with (first
            | ((with_reducible refine stopLd 31 _ rfl ?_); unfold Stop; refine wpList_load_row rfl 31 _ rfl _ rfl 31 _ (0, 0) _ kP Try.underlying31 rfl (by kernel_rfl) ?_)
            | (go_at_call 14; refine (HAT.out _ hU0).mono ?_; rintro e w5 ⟨rfl, hq⟩; clear cP fP cR fR; replace kP := (hq).heap kP (fun h => h); replace kR := (hq).heap kR (fun h => h); replace hz := Nat.le_trans hz (hq).size; replace hU0 := hU0.then hq (fun _ _ h => h.elim); have cP := cells_of kP; (try simp only [progC, zzT, zzO, zzS] at cP); have fP := frees_of kP; have cR := cells_of kR; (try simp only [progC, zzT, zzO, zzS] at cR); have fR := frees_of kR; clear hq)
            | ((with_reducible refine stopAl 24 rfl ?_); unfold Stop; refine wpList_alloc_blk rfl 24 rfl (.agg #[.int .i64 0, .int .i64 0, .int .i64 0, .int .i64 0, .int .i64 0, .int .i64 0, .int .i64 0, .int .i64 0, .int .i64 0, .int .i64 0, .int .i64 0, .int .i64 0, .int .i64 0, .int .i64 0, .int .i64 0, .int .i64 0, .int .i64 0, .int .i64 0, .int .i64 0, .int .i64 0, .int .i64 0, .int .i64 0]) (by kernel_rfl) #[.int .i64 0, .int .i64 0, .int .i64 0, .int .i64 0, .int .i64 0, .int .i64 0, .int .i64 0, .int .i64 0, .int .i64 0, .int .i64 0, .int .i64 0, .int .i64 0, .int .i64 0, .int .i64 0, .int .i64 0, .int .i64 0, .int .i64 0, .int .i64 0, .int .i64 0, .int .i64 0, .int .i64 0, .int .i64 0] rfl ?_; intro bX wn hbn kn hUn hsn; clear cP fP cR fR; have lPX := heap_lt kP; rw [hbn] at lPX; replace kP := hUn.heap kP (fun h => h); have lRX := heap_lt kR; rw [hbn] at lRX; replace kR := hUn.heap kR (fun h => h); have gX : w.heap.size ≤ bX := Nat.le_trans hU0.size (Nat.le_of_eq hbn); have kX := kn; replace hU0 := hU0.then hUn (fun _ _ h => h.elim); replace hz : w.heap.size ≤ wn.heap.size := (by omega); clear kn hUn hsn hbn; have cX := cells_of kX; (try simp only [progC, zzT, zzO, zzS] at cX); have fX := frees_of kX; have cP := cells_of kP; (try simp only [progC, zzT, zzO, zzS] at cP); have fP := frees_of kP; have cR := cells_of kR; (try simp only [progC, zzT, zzO, zzS] at cR); have fR := frees_of kR)
            | ((with_reducible refine stopSt 24 _ _ rfl ?_); unfold Stop; refine wpList_store_blk rfl 24 _ _ rfl bX 0 rfl (.agg D) rfl #[.int .i64 0, .int .i64 0, .int .i64 0, .int .i64 0, .int .i64 0, .int .i64 0, .int .i64 0, .int .i64 0, .int .i64 0, .int .i64 0, .int .i64 0, .int .i64 0, .int .i64 0, .int .i64 0, .int .i64 0, .int .i64 0, .int .i64 0, .int .i64 0, .int .i64 0, .int .i64 0, .int .i64 0, .int .i64 0] D _ kX HDL.out HDI.out HD1.out HDP.out ?_; intro w6 k6 hu6 hs6; clear cP fP cR fR; replace kP := (hu6).heap kP ((by omega)); replace kR := (hu6).heap kR ((by omega)); replace hz := Nat.le_trans hz (hu6).size; replace hU0 := hU0.then hu6 (fun i hi (e : i = bX) => by omega); have cP := cells_of kP; (try simp only [progC, zzT, zzO, zzS] at cP); have fP := frees_of kP; have cR := cells_of kR; (try simp only [progC, zzT, zzO, zzS] at cR); have fR := frees_of kR)
            | ((with_reducible refine stopLd 24 _ rfl ?_); unfold Stop; refine wpList_load_row rfl 24 _ rfl _ rfl 24 _ (0, 0) _ k6 Try.underlying24 rfl HDI.out ?_)
            | ((with_reducible refine stopSt 24 _ _ rfl ?_); unfold Stop; refine wpList_store_blk rfl 24 _ _ rfl bR 0 rfl (.agg D) rfl #[.int .i64 0, .int .i64 0, .int .i64 0, .int .i64 0, .int .i64 0, .int .i64 0, .int .i64 0, .int .i64 0, .int .i64 0, .int .i64 0, .int .i64 0, .int .i64 0, .int .i64 0, .int .i64 0, .int .i64 0, .int .i64 0, .int .i64 0, .int .i64 0, .int .i64 0, .int .i64 0, .int .i64 0, .int .i64 0] D _ kR HDL.out HDI.out HD1.out HDP.out ?_; intro w7 k7 hu7 hs7))
          exact bodyPost_ret (v := .tuple #[.agg _, .int .i64 _, .bool _, .int .u16 _]) (results_blk_tmp3 Try.results20 _ _ bR 24 _ (0, 0) _ _ _ _ rfl rfl rfl rfl k7 Try.underlying24 rfl HDI.out) rfl ⟨by rw [← HRR.out, ← HD.out]; rfl, (hU0.then hu7 (fun i hi (e : i = bR) => by omega)).old⟩
      · rw [if_neg hstop] at hq
        have HQ := Lib.hid hq
        have h0 : err = 0 := by omega
        have hi : is = false := by cases is <;> simp_all
        subst h0 hi
        have hx : x ≠ s.size := by intro h; exact hstop (.inr (.inr h))
        have hxr := (hle.2.2.2 rfl).2.2.2.2
        obtain ⟨n, rfl⟩ : ∃ n : Nat, x = n := ⟨x.toNat, by omega⟩
        have g0 : ((n : Int) == (s.size : Int)) = false := by simpa using hx
        clear hq hle hstop
        go_wp2_with (first
          | ((with_reducible refine stopLd 31 _ rfl ?_); unfold Stop; refine wpList_load_row rfl 31 _ rfl _ rfl 31 _ (0, 0) _ kP Try.underlying31 rfl (by kernel_rfl) ?_)
          | (go_at_call 14; refine (HAT.out _ hU0).mono ?_; rintro e w5 ⟨rfl, hq⟩; clear cP fP cR fR; replace kP := (hq).heap kP (fun h => h); replace kR := (hq).heap kR (fun h => h); replace hz := Nat.le_trans hz (hq).size; replace hU0 := hU0.then hq (fun _ _ h => h.elim); have cP := cells_of kP; (try simp only [progC, zzT, zzO, zzS] at cP); have fP := frees_of kP; have cR := cells_of kR; (try simp only [progC, zzT, zzO, zzS] at cR); have fR := frees_of kR; have hW1 := hW0.then hq (fun _ _ h => h.elim); clear hq)
          | ((with_reducible refine stopAl 24 rfl ?_); unfold Stop; refine wpList_alloc_blk rfl 24 rfl (.agg #[.int .i64 0, .int .i64 0, .int .i64 0, .int .i64 0, .int .i64 0, .int .i64 0, .int .i64 0, .int .i64 0, .int .i64 0, .int .i64 0, .int .i64 0, .int .i64 0, .int .i64 0, .int .i64 0, .int .i64 0, .int .i64 0, .int .i64 0, .int .i64 0, .int .i64 0, .int .i64 0, .int .i64 0, .int .i64 0]) (by kernel_rfl) #[.int .i64 0, .int .i64 0, .int .i64 0, .int .i64 0, .int .i64 0, .int .i64 0, .int .i64 0, .int .i64 0, .int .i64 0, .int .i64 0, .int .i64 0, .int .i64 0, .int .i64 0, .int .i64 0, .int .i64 0, .int .i64 0, .int .i64 0, .int .i64 0, .int .i64 0, .int .i64 0, .int .i64 0, .int .i64 0] rfl ?_; intro bX wn hbn kn hUn hsn; clear cP fP cR fR; have lPX := heap_lt kP; rw [hbn] at lPX; replace kP := hUn.heap kP (fun h => h); have lRX := heap_lt kR; rw [hbn] at lRX; replace kR := hUn.heap kR (fun h => h); have gX : w.heap.size ≤ bX := Nat.le_trans hU0.size (Nat.le_of_eq hbn); have kX := kn; replace hU0 := hU0.then hUn (fun _ _ h => h.elim); replace hz : w.heap.size ≤ wn.heap.size := (by omega); have hW2 := hW1.then hUn (fun _ _ h => h.elim); have lrX : wL.heap.size ≤ bX := (by have := hW1.size; omega); clear kn hUn hsn hbn; have cX := cells_of kX; (try simp only [progC, zzT, zzO, zzS] at cX); have fX := frees_of kX; have cP := cells_of kP; (try simp only [progC, zzT, zzO, zzS] at cP); have fP := frees_of kP; have cR := cells_of kR; (try simp only [progC, zzT, zzO, zzS] at cR); have fR := frees_of kR)
          | ((with_reducible refine stopSt 24 _ _ rfl ?_); unfold Stop; refine wpList_store_blk rfl 24 _ _ rfl bX 0 rfl (.agg D) rfl #[.int .i64 0, .int .i64 0, .int .i64 0, .int .i64 0, .int .i64 0, .int .i64 0, .int .i64 0, .int .i64 0, .int .i64 0, .int .i64 0, .int .i64 0, .int .i64 0, .int .i64 0, .int .i64 0, .int .i64 0, .int .i64 0, .int .i64 0, .int .i64 0, .int .i64 0, .int .i64 0, .int .i64 0, .int .i64 0] D _ kX HDL.out HDI.out HD1.out HDP.out ?_; intro w6 k6 hu6 hs6; have hW3 := hW2.then hu6 (fun i hi (e : i = bX) => by omega)))
        go_roundg g
        case measure => omega
        case rel => exact ⟨(n : Int) + 1, left, rfl, by go_num, HQ, hW3⟩
set_option maxRecDepth 100000 in
set_option maxHeartbeats 8000000 in
theorem rfrom_any {w : World} (p : ProgD) (ca : Option Addr) (cc : Nat) (s : ByteArray) (a st : Int) (hc : CodeR w ca p.code) (hs0 : s.size ≤ 140737488351232) (f : Nat) (R : ResD) (hR : fromF p s.data.toList f a st = some R) :
    Calls Try.prog 24 #[.agg (progC p (.slice ca p.code.length cc)), .string s, .int .i64 a, .int .i64 st] w fun e w' => e = .returned (resV .i64 R) ∧ Upd (fun _ => False) w w' := by
  have hU0 := Upd.refl (fun k => w.heap.size ≤ k) w
  have hz := Nat.le_refl w.heap.size
  have HC := Lib.hid hc
  have HR := Lib.hid hR
  have HL : Hid (s.data.toList.length = s.size) := Lib.hid (by simp)
  clear hc hR
  unfold progC
  go_enter Try.func24, Try.ntmps24
  go_upto_region 1 with (first
    | ((with_reducible refine stopBx 31 _ rfl ?_); unfold Stop; refine wpList_box_blk rfl 31 _ rfl _ (by go_simp; first | done | exact rfl) #[.slice ca p.code.length cc, .int .i64 p.rounds, .bool p.fold] rfl ?_; intro bP wn hbn kn hUn hsn; have gP : w.heap.size ≤ bP := Nat.le_trans hU0.size (Nat.le_of_eq hbn); have kP := kn; replace hU0 := hU0.then hUn (fun _ _ h => h.elim); replace hz : w.heap.size ≤ wn.heap.size := (by omega); clear kn hUn hsn hbn; have cP := cells_of kP; (try simp only [progC, zzT, zzO, zzS] at cP); have fP := frees_of kP)
    | ((with_reducible refine stopAl 24 rfl ?_); unfold Stop; refine wpList_alloc_blk rfl 24 rfl (.agg #[.int .i64 0, .int .i64 0, .int .i64 0, .int .i64 0, .int .i64 0, .int .i64 0, .int .i64 0, .int .i64 0, .int .i64 0, .int .i64 0, .int .i64 0, .int .i64 0, .int .i64 0, .int .i64 0, .int .i64 0, .int .i64 0, .int .i64 0, .int .i64 0, .int .i64 0, .int .i64 0, .int .i64 0, .int .i64 0]) (by kernel_rfl) #[.int .i64 0, .int .i64 0, .int .i64 0, .int .i64 0, .int .i64 0, .int .i64 0, .int .i64 0, .int .i64 0, .int .i64 0, .int .i64 0, .int .i64 0, .int .i64 0, .int .i64 0, .int .i64 0, .int .i64 0, .int .i64 0, .int .i64 0, .int .i64 0, .int .i64 0, .int .i64 0, .int .i64 0, .int .i64 0] rfl ?_; intro bR wn hbn kn hUn hsn; clear cP fP; have lPR := heap_lt kP; rw [hbn] at lPR; replace kP := hUn.heap kP (fun h => h); have gR : w.heap.size ≤ bR := Nat.le_trans hU0.size (Nat.le_of_eq hbn); have kR := kn; replace hU0 := hU0.then hUn (fun _ _ h => h.elim); replace hz : w.heap.size ≤ wn.heap.size := (by omega); clear kn hUn hsn hbn; have cR := cells_of kR; (try simp only [progC, zzT, zzO, zzS] at cR); have fR := frees_of kR; have cP := cells_of kP; (try simp only [progC, zzT, zzO, zzS] at cP); have fP := frees_of kP))
  have hPR : bP < bR := lPR
  clear lPR
  have HKPR := Lib.hid (And.intro kP kR)
  have HU9 := Lib.hid hU0
  have hbR := heap_lt kR
  obtain ⟨wL, rfl⟩ : ∃ wL, wL = wn := ⟨_, rfl⟩
  clear cP fP cR fR kP kR hU0 hz
  go_wp2_with fail
  go_simp
  go_loopg [3, 12] f (fun gk sv av wr => ∃ (x y : Int), sv = .int .i64 y ∧ av = .int .i64 x ∧ Hid (fromF p s.data.toList gk x y = some R) ∧ Upd (fun _ => False) wL wr)
  case atStart => exact ⟨a, st, rfl, rfl, HR, Upd.refl _ _⟩
  case round =>
    clear HR
    obtain ⟨x, y, rfl, rfl, hrun, hW0⟩ := hrel
    obtain ⟨kP, kR⟩ := And.intro (hW0.heap HKPR.out.1 (fun h => h)) (hW0.heap HKPR.out.2 (fun h => h))
    have hU0 := HU9.out.then hW0 (fun _ _ h => h.elim)
    have hz := hU0.size
    cases gk with
    | zero => have := hrun.out; unfold fromF at this; cases this
    | succ g =>
      obtain ⟨r, hr⟩ := atF_some p s.data.toList x y
      have HAT := Lib.hid (fun (w' : World) (hu : Upd (fun k => w.heap.size ≤ k) w w') => rat_any p ca cc s x y (HC.out.newer hu) hs0 r hr)
      have hle := atF_left hr
      have hlen := atF_len hr
      have hq := hrun.out
      unfold fromF at hq
      rw [hr] at hq
      simp only [HL.out] at hq hle
      clear hrun hr
      obtain ⟨m, left, is, err⟩ := r
      simp only [] at hq hle hlen
      obtain ⟨D, hD⟩ : ∃ D, matchC m = D := ⟨_, rfl⟩
      have HDS : Hid (D.size = 22) := Lib.hid (by rw [← hD]; exact match_size _ hlen.1 hlen.2)
      have HD1 : Hid (D.toList.all (·.oneCell') = true) := Lib.hid (by rw [← hD]; exact match_one _)
      have HDI : Hid ((Try.prog.info? 24).map (·.size) = some D.size) := Lib.hid (by rw [HDS.out]; kernel_rfl)
      have HDP : Hid (spl #[.int .i64 0, .int .i64 0, .int .i64 0, .int .i64 0, .int .i64 0, .int .i64 0, .int .i64 0, .int .i64 0, .int .i64 0, .int .i64 0, .int .i64 0, .int .i64 0, .int .i64 0, .int .i64 0, .int .i64 0, .int .i64 0, .int .i64 0, .int .i64 0, .int .i64 0, .int .i64 0, .int .i64 0, .int .i64 0] 0 D.toList = D) := Lib.hid (spl_all _ _ (by rw [Array.length_toList, HDS.out]; rfl))
      have HDL : Hid (0 + D.size ≤ (#[.int .i64 0, .int .i64 0, .int .i64 0, .int .i64 0, .int .i64 0, .int .i64 0, .int .i64 0, .int .i64 0, .int .i64 0, .int .i64 0, .int .i64 0, .int .i64 0, .int .i64 0, .int .i64 0, .int .i64 0, .int .i64 0, .int .i64 0, .int .i64 0, .int .i64 0, .int .i64 0, .int .i64 0, .int .i64 0] : Array Value).size) := Lib.hid (by rw [HDS.out]; decide)
      unfold resV at HAT
      simp only [hD] at HAT
      have HD := Lib.hid hD
      clear hD hlen
      have cP := cells_of kP; (try simp only [progC, zzT, zzO, zzS] at cP); have fP := frees_of kP; have cR := cells_of kR; (try simp only [progC, zzT, zzO, zzS] at cR); have fR := frees_of kR
      by_cases hstop : err ≠ 0 ∨ is = true ∨ x = s.size
      · rw [if_pos hstop] at hq
        have HRR := Lib.hid (Option.some.inj hq)
        clear hq hle
        rcases (show err ≠ 0 ∨ (err = 0 ∧ is = true) ∨ (err = 0 ∧ is = false ∧ x = s.size) by
          by_cases h0 : err = 0
          · cases is
            · exact .inr (.inr ⟨h0, rfl, by rcases hstop with h | h | h; exact absurd h0 h; cases h; exact h⟩)
            · exact .inr (.inl ⟨h0, rfl⟩)
          · exact .inl h0) with h0 | ⟨rfl, rfl⟩ | ⟨rfl, rfl, rfl⟩
        all_goals clear hstop
        · have g0 : (err != 0) = true := by simpa using h0
          go_wp2_with (first
            | ((with_reducible refine stopLd 31 _ rfl ?_); unfold Stop; refine wpList_load_row rfl 31 _ rfl _ rfl 31 _ (0, 0) _ kP Try.underlying31 rfl (by kernel_rfl) ?_)
            | (go_at_call 19; refine (HAT.out _ hU0).mono ?_; rintro e w5 ⟨rfl, hq⟩; clear cP fP cR fR; replace kP := (hq).heap kP (fun h => h); replace kR := (hq).heap kR (fun h => h); replace hz := Nat.le_trans hz (hq).size; replace hU0 := hU0.then hq (fun _ _ h => h.elim); have cP := cells_of kP; (try simp only [progC, zzT, zzO, zzS] at cP); have fP := frees_of kP; have cR := cells_of kR; (try simp only [progC, zzT, zzO, zzS] at cR); have fR := frees_of kR; clear hq)
            | ((with_reducible refine stopAl 24 rfl ?_); unfold Stop; refine wpList_alloc_blk rfl 24 rfl (.agg #[.int .i64 0, .int .i64 0, .int .i64 0, .int .i64 0, .int .i64 0, .int .i64 0, .int .i64 0, .int .i64 0, .int .i64 0, .int .i64 0, .int .i64 0, .int .i64 0, .int .i64 0, .int .i64 0, .int .i64 0, .int .i64 0, .int .i64 0, .int .i64 0, .int .i64 0, .int .i64 0, .int .i64 0, .int .i64 0]) (by kernel_rfl) #[.int .i64 0, .int .i64 0, .int .i64 0, .int .i64 0, .int .i64 0, .int .i64 0, .int .i64 0, .int .i64 0, .int .i64 0, .int .i64 0, .int .i64 0, .int .i64 0, .int .i64 0, .int .i64 0, .int .i64 0, .int .i64 0, .int .i64 0, .int .i64 0, .int .i64 0, .int .i64 0, .int .i64 0, .int .i64 0] rfl ?_; intro bX wn hbn kn hUn hsn; clear cP fP cR fR; have lPX := heap_lt kP; rw [hbn] at lPX; replace kP := hUn.heap kP (fun h => h); have lRX := heap_lt kR; rw [hbn] at lRX; replace kR := hUn.heap kR (fun h => h); have gX : w.heap.size ≤ bX := Nat.le_trans hU0.size (Nat.le_of_eq hbn); have kX := kn; replace hU0 := hU0.then hUn (fun _ _ h => h.elim); replace hz : w.heap.size ≤ wn.heap.size := (by omega); clear kn hUn hsn hbn; have cX := cells_of kX; (try simp only [progC, zzT, zzO, zzS] at cX); have fX := frees_of kX; have cP := cells_of kP; (try simp only [progC, zzT, zzO, zzS] at cP); have fP := frees_of kP; have cR := cells_of kR; (try simp only [progC, zzT, zzO, zzS] at cR); have fR := frees_of kR)
            | ((with_reducible refine stopSt 24 _ _ rfl ?_); unfold Stop; refine wpList_store_blk rfl 24 _ _ rfl bX 0 rfl (.agg D) rfl #[.int .i64 0, .int .i64 0, .int .i64 0, .int .i64 0, .int .i64 0, .int .i64 0, .int .i64 0, .int .i64 0, .int .i64 0, .int .i64 0, .int .i64 0, .int .i64 0, .int .i64 0, .int .i64 0, .int .i64 0, .int .i64 0, .int .i64 0, .int .i64 0, .int .i64 0, .int .i64 0, .int .i64 0, .int .i64 0] D _ kX HDL.out HDI.out HD1.out HDP.out ?_; intro w6 k6 hu6 hs6; clear cP fP cR fR; replace kP := (hu6).heap kP ((by omega)); replace kR := (hu6).heap kR ((by omega)); replace hz := Nat.le_trans hz (hu6).size; replace hU0 := hU0.then hu6 (fun i hi (e : i = bX) => by omega); have cP := cells_of kP; (try simp only [progC, zzT, zzO, zzS] at cP); have fP := frees_of kP; have cR := cells_of kR; (try simp only [progC, zzT, zzO, zzS] at cR); have fR := frees_of kR)
            | ((with_reducible refine stopLd 24 _ rfl ?_); unfold Stop; refine wpList_load_row rfl 24 _ rfl _ rfl 24 _ (0, 0) _ k6 Try.underlying24 rfl HDI.out ?_)
            | ((with_reducible refine stopSt 24 _ _ rfl ?_); unfold Stop; refine wpList_store_blk rfl 24 _ _ rfl bR 0 rfl (.agg D) rfl #[.int .i64 0, .int .i64 0, .int .i64 0, .int .i64 0, .int .i64 0, .int .i64 0, .int .i64 0, .int .i64 0, .int .i64 0, .int .i64 0, .int .i64 0, .int .i64 0, .int .i64 0, .int .i64 0, .int .i64 0, .int .i64 0, .int .i64 0, .int .i64 0, .int .i64 0, .int .i64 0, .int .i64 0, .int .i64 0] D _ kR HDL.out HDI.out HD1.out HDP.out ?_; intro w7 k7 hu7 hs7))
          exact bodyPost_ret (v := .tuple #[.agg _, .int .i64 _, .bool _, .int .i64 _]) (results_blk_tmp3 Try.results24 _ _ bR 24 _ (0, 0) _ _ _ _ rfl rfl rfl rfl k7 Try.underlying24 rfl HDI.out) rfl ⟨by rw [← HRR.out, ← HD.out]; rfl, (hU0.then hu7 (fun i hi (e : i = bR) => by omega)).old⟩
        · go_wp2_with (first
            | ((with_reducible refine stopLd 31 _ rfl ?_); unfold Stop; refine wpList_load_row rfl 31 _ rfl _ rfl 31 _ (0, 0) _ kP Try.underlying31 rfl (by kernel_rfl) ?_)
            | (go_at_call 19; refine (HAT.out _ hU0).mono ?_; rintro e w5 ⟨rfl, hq⟩; clear cP fP cR fR; replace kP := (hq).heap kP (fun h => h); replace kR := (hq).heap kR (fun h => h); replace hz := Nat.le_trans hz (hq).size; replace hU0 := hU0.then hq (fun _ _ h => h.elim); have cP := cells_of kP; (try simp only [progC, zzT, zzO, zzS] at cP); have fP := frees_of kP; have cR := cells_of kR; (try simp only [progC, zzT, zzO, zzS] at cR); have fR := frees_of kR; clear hq)
            | ((with_reducible refine stopAl 24 rfl ?_); unfold Stop; refine wpList_alloc_blk rfl 24 rfl (.agg #[.int .i64 0, .int .i64 0, .int .i64 0, .int .i64 0, .int .i64 0, .int .i64 0, .int .i64 0, .int .i64 0, .int .i64 0, .int .i64 0, .int .i64 0, .int .i64 0, .int .i64 0, .int .i64 0, .int .i64 0, .int .i64 0, .int .i64 0, .int .i64 0, .int .i64 0, .int .i64 0, .int .i64 0, .int .i64 0]) (by kernel_rfl) #[.int .i64 0, .int .i64 0, .int .i64 0, .int .i64 0, .int .i64 0, .int .i64 0, .int .i64 0, .int .i64 0, .int .i64 0, .int .i64 0, .int .i64 0, .int .i64 0, .int .i64 0, .int .i64 0, .int .i64 0, .int .i64 0, .int .i64 0, .int .i64 0, .int .i64 0, .int .i64 0, .int .i64 0, .int .i64 0] rfl ?_; intro bX wn hbn kn hUn hsn; clear cP fP cR fR; have lPX := heap_lt kP; rw [hbn] at lPX; replace kP := hUn.heap kP (fun h => h); have lRX := heap_lt kR; rw [hbn] at lRX; replace kR := hUn.heap kR (fun h => h); have gX : w.heap.size ≤ bX := Nat.le_trans hU0.size (Nat.le_of_eq hbn); have kX := kn; replace hU0 := hU0.then hUn (fun _ _ h => h.elim); replace hz : w.heap.size ≤ wn.heap.size := (by omega); clear kn hUn hsn hbn; have cX := cells_of kX; (try simp only [progC, zzT, zzO, zzS] at cX); have fX := frees_of kX; have cP := cells_of kP; (try simp only [progC, zzT, zzO, zzS] at cP); have fP := frees_of kP; have cR := cells_of kR; (try simp only [progC, zzT, zzO, zzS] at cR); have fR := frees_of kR)
            | ((with_reducible refine stopSt 24 _ _ rfl ?_); unfold Stop; refine wpList_store_blk rfl 24 _ _ rfl bX 0 rfl (.agg D) rfl #[.int .i64 0, .int .i64 0, .int .i64 0, .int .i64 0, .int .i64 0, .int .i64 0, .int .i64 0, .int .i64 0, .int .i64 0, .int .i64 0, .int .i64 0, .int .i64 0, .int .i64 0, .int .i64 0, .int .i64 0, .int .i64 0, .int .i64 0, .int .i64 0, .int .i64 0, .int .i64 0, .int .i64 0, .int .i64 0] D _ kX HDL.out HDI.out HD1.out HDP.out ?_; intro w6 k6 hu6 hs6; clear cP fP cR fR; replace kP := (hu6).heap kP ((by omega)); replace kR := (hu6).heap kR ((by omega)); replace hz := Nat.le_trans hz (hu6).size; replace hU0 := hU0.then hu6 (fun i hi (e : i = bX) => by omega); have cP := cells_of kP; (try simp only [progC, zzT, zzO, zzS] at cP); have fP := frees_of kP; have cR := cells_of kR; (try simp only [progC, zzT, zzO, zzS] at cR); have fR := frees_of kR)
            | ((with_reducible refine stopLd 24 _ rfl ?_); unfold Stop; refine wpList_load_row rfl 24 _ rfl _ rfl 24 _ (0, 0) _ k6 Try.underlying24 rfl HDI.out ?_)
            | ((with_reducible refine stopSt 24 _ _ rfl ?_); unfold Stop; refine wpList_store_blk rfl 24 _ _ rfl bR 0 rfl (.agg D) rfl #[.int .i64 0, .int .i64 0, .int .i64 0, .int .i64 0, .int .i64 0, .int .i64 0, .int .i64 0, .int .i64 0, .int .i64 0, .int .i64 0, .int .i64 0, .int .i64 0, .int .i64 0, .int .i64 0, .int .i64 0, .int .i64 0, .int .i64 0, .int .i64 0, .int .i64 0, .int .i64 0, .int .i64 0, .int .i64 0] D _ kR HDL.out HDI.out HD1.out HDP.out ?_; intro w7 k7 hu7 hs7))
          exact bodyPost_ret (v := .tuple #[.agg _, .int .i64 _, .bool _, .int .i64 _]) (results_blk_tmp3 Try.results24 _ _ bR 24 _ (0, 0) _ _ _ _ rfl rfl rfl rfl k7 Try.underlying24 rfl HDI.out) rfl ⟨by rw [← HRR.out, ← HD.out]; rfl, (hU0.then hu7 (fun i hi (e : i = bR) => by omega)).old⟩
        · go_wp2_with (first
            | ((with_reducible refine stopLd 31 _ rfl ?_); unfold Stop; refine wpList_load_row rfl 31 _ rfl _ rfl 31 _ (0, 0) _ kP Try.underlying31 rfl (by kernel_rfl) ?_)
            | (go_at_call 19; refine (HAT.out _ hU0).mono ?_; rintro e w5 ⟨rfl, hq⟩; clear cP fP cR fR; replace kP := (hq).heap kP (fun h => h); replace kR := (hq).heap kR (fun h => h); replace hz := Nat.le_trans hz (hq).size; replace hU0 := hU0.then hq (fun _ _ h => h.elim); have cP := cells_of kP; (try simp only [progC, zzT, zzO, zzS] at cP); have fP := frees_of kP; have cR := cells_of kR; (try simp only [progC, zzT, zzO, zzS] at cR); have fR := frees_of kR; clear hq)
            | ((with_reducible refine stopAl 24 rfl ?_); unfold Stop; refine wpList_alloc_blk rfl 24 rfl (.agg #[.int .i64 0, .int .i64 0, .int .i64 0, .int .i64 0, .int .i64 0, .int .i64 0, .int .i64 0, .int .i64 0, .int .i64 0, .int .i64 0, .int .i64 0, .int .i64 0, .int .i64 0, .int .i64 0, .int .i64 0, .int .i64 0, .int .i64 0, .int .i64 0, .int .i64 0, .int .i64 0, .int .i64 0, .int .i64 0]) (by kernel_rfl) #[.int .i64 0, .int .i64 0, .int .i64 0, .int .i64 0, .int .i64 0, .int .i64 0, .int .i64 0, .int .i64 0, .int .i64 0, .int .i64 0, .int .i64 0, .int .i64 0, .int .i64 0, .int .i64 0, .int .i64 0, .int .i64 0, .int .i64 0, .int .i64 0, .int .i64 0, .int .i64 0, .int .i64 0, .int .i64 0] rfl ?_; intro bX wn hbn kn hUn hsn; clear cP fP cR fR; have lPX := heap_lt kP; rw [hbn] at lPX; replace kP := hUn.heap kP (fun h => h); have lRX := heap_lt kR; rw [hbn] at lRX; replace kR := hUn.heap kR (fun h => h); have gX : w.heap.size ≤ bX := Nat.le_trans hU0.size (Nat.le_of_eq hbn); have kX := kn; replace hU0 := hU0.then hUn (fun _ _ h => h.elim); replace hz : w.heap.size ≤ wn.heap.size := (by omega); clear kn hUn hsn hbn; have cX := cells_of kX; (try simp only [progC, zzT, zzO, zzS] at cX); have fX := frees_of kX; have cP := cells_of kP; (try simp only [progC, zzT, zzO, zzS] at cP); have fP := frees_of kP; have cR := cells_of kR; (try simp only [progC, zzT, zzO, zzS] at cR); have fR := frees_of kR)
            | ((with_reducible refine stopSt 24 _ _ rfl ?_); unfold Stop; refine wpList_store_blk rfl 24 _ _ rfl bX 0 rfl (.agg D) rfl #[.int .i64 0, .int .i64 0, .int .i64 0, .int .i64 0, .int .i64 0, .int .i64 0, .int .i64 0, .int .i64 0, .int .i64 0, .int .i64 0, .int .i64 0, .int .i64 0, .int .i64 0, .int .i64 0, .int .i64 0, .int .i64 0, .int .i64 0, .int .i64 0, .int .i64 0, .int .i64 0, .int .i64 0, .int .i64 0] D _ kX HDL.out HDI.out HD1.out HDP.out ?_; intro w6 k6 hu6 hs6; clear cP fP cR fR; replace kP := (hu6).heap kP ((by omega)); replace kR := (hu6).heap kR ((by omega)); replace hz := Nat.le_trans hz (hu6).size; replace hU0 := hU0.then hu6 (fun i hi (e : i = bX) => by omega); have cP := cells_of kP; (try simp only [progC, zzT, zzO, zzS] at cP); have fP := frees_of kP; have cR := cells_of kR; (try simp only [progC, zzT, zzO, zzS] at cR); have fR := frees_of kR)
            | ((with_reducible refine stopLd 24 _ rfl ?_); unfold Stop; refine wpList_load_row rfl 24 _ rfl _ rfl 24 _ (0, 0) _ k6 Try.underlying24 rfl HDI.out ?_)
            | ((with_reducible refine stopSt 24 _ _ rfl ?_); unfold Stop; refine wpList_store_blk rfl 24 _ _ rfl bR 0 rfl (.agg D) rfl #[.int .i64 0, .int .i64 0, .int .i64 0, .int .i64 0, .int .i64 0, .int .i64 0, .int .i64 0, .int .i64 0, .int .i64 0, .int .i64 0, .int .i64 0, .int .i64 0, .int .i64 0, .int .i64 0, .int .i64 0, .int .i64 0, .int .i64 0, .int .i64 0, .int .i64 0, .int .i64 0, .int .i64 0, .int .i64 0] D _ kR HDL.out HDI.out HD1.out HDP.out ?_; intro w7 k7 hu7 hs7))
          exact bodyPost_ret (v := .tuple #[.agg _, .int .i64 _, .bool _, .int .i64 _]) (results_blk_tmp3 Try.results24 _ _ bR 24 _ (0, 0) _ _ _ _ rfl rfl rfl rfl k7 Try.underlying24 rfl HDI.out) rfl ⟨by rw [← HRR.out, ← HD.out]; rfl, (hU0.then hu7 (fun i hi (e : i = bR) => by omega)).old⟩
      · rw [if_neg hstop] at hq
        have HQ := Lib.hid hq
        have h0 : err = 0 := by omega
        have hi : is = false := by cases is <;> simp_all
        subst h0 hi
        have hx : x ≠ s.size := by intro h; exact hstop (.inr (.inr h))
        have hxr := (hle.2.2.2 rfl).2.2.2.2
        obtain ⟨n, rfl⟩ : ∃ n : Nat, x = n := ⟨x.toNat, by omega⟩
        have g0 : ((n : Int) == (s.size : Int)) = false := by simpa using hx
        clear hq hle hstop
        go_wp2_with (first
          | ((with_reducible refine stopLd 31 _ rfl ?_); unfold Stop; refine wpList_load_row rfl 31 _ rfl _ rfl 31 _ (0, 0) _ kP Try.underlying31 rfl (by kernel_rfl) ?_)
          | (go_at_call 19; refine (HAT.out _ hU0).mono ?_; rintro e w5 ⟨rfl, hq⟩; clear cP fP cR fR; replace kP := (hq).heap kP (fun h => h); replace kR := (hq).heap kR (fun h => h); replace hz := Nat.le_trans hz (hq).size; replace hU0 := hU0.then hq (fun _ _ h => h.elim); have cP := cells_of kP; (try simp only [progC, zzT, zzO, zzS] at cP); have fP := frees_of kP; have cR := cells_of kR; (try simp only [progC, zzT, zzO, zzS] at cR); have fR := frees_of kR; have hW1 := hW0.then hq (fun _ _ h => h.elim); clear hq)
          | ((with_reducible refine stopAl 24 rfl ?_); unfold Stop; refine wpList_alloc_blk rfl 24 rfl (.agg #[.int .i64 0, .int .i64 0, .int .i64 0, .int .i64 0, .int .i64 0, .int .i64 0, .int .i64 0, .int .i64 0, .int .i64 0, .int .i64 0, .int .i64 0, .int .i64 0, .int .i64 0, .int .i64 0, .int .i64 0, .int .i64 0, .int .i64 0, .int .i64 0, .int .i64 0, .int .i64 0, .int .i64 0, .int .i64 0]) (by kernel_rfl) #[.int .i64 0, .int .i64 0, .int .i64 0, .int .i64 0, .int .i64 0, .int .i64 0, .int .i64 0, .int .i64 0, .int .i64 0, .int .i64 0, .int .i64 0, .int .i64 0, .int .i64 0, .int .i64 0, .int .i64 0, .int .i64 0, .int .i64 0, .int .i64 0, .int .i64 0, .int .i64 0, .int .i64 0, .int .i64 0] rfl ?_; intro bX wn hbn kn hUn hsn; clear cP fP cR fR; have lPX := heap_lt kP; rw [hbn] at lPX; replace kP := hUn.heap kP (fun h => h); have lRX := heap_lt kR; rw [hbn] at lRX; replace kR := hUn.heap kR (fun h => h); have gX : w.heap.size ≤ bX := Nat.le_trans hU0.size (Nat.le_of_eq hbn); have kX := kn; replace hU0 := hU0.then hUn (fun _ _ h => h.elim); replace hz : w.heap.size ≤ wn.heap.size := (by omega); have hW2 := hW1.then hUn (fun _ _ h => h.elim); have lrX : wL.heap.size ≤ bX := (by have := hW1.size; omega); clear kn hUn hsn hbn; have cX := cells_of kX; (try simp only [progC, zzT, zzO, zzS] at cX); have fX := frees_of kX; have cP := cells_of kP; (try simp only [progC, zzT, zzO, zzS] at cP); have fP := frees_of kP; have cR := cells_of kR; (try simp only [progC, zzT, zzO, zzS] at cR); have fR := frees_of kR)
          | ((with_reducible refine stopSt 24 _ _ rfl ?_); unfold Stop; refine wpList_store_blk rfl 24 _ _ rfl bX 0 rfl (.agg D) rfl #[.int .i64 0, .int .i64 0, .int .i64 0, .int .i64 0, .int .i64 0, .int .i64 0, .int .i64 0, .int .i64 0, .int .i64 0, .int .i64 0, .int .i64 0, .int .i64 0, .int .i64 0, .int .i64 0, .int .i64 0, .int .i64 0, .int .i64 0, .int .i64 0, .int .i64 0, .int .i64 0, .int .i64 0, .int .i64 0] D _ kX HDL.out HDI.out HD1.out HDP.out ?_; intro w6 k6 hu6 hs6; have hW3 := hW2.then hu6 (fun i hi (e : i = bX) => by omega)))
        go_roundg g
        case measure => omega
        case rel => exact ⟨(n : Int) + 1, left, rfl, by go_num, HQ, hW3⟩
end Go.Proofs.Ytigbfgmgdfnhcaa
