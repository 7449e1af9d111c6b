/- The walk of the law MatchPlain. (Printed by tools/plaingen.py.) -/
import Derived.Test.YtigbfgmgdfnhcaaWf
import Derived.Test.YtigbfgmgdfnhcaaBaseA0
set_option linter.all false
set_option linter.unusedVariables false
set_option linter.unusedSimpArgs false
namespace Go.Proofs.Ytigbfgmgdfnhcaa
open Go.RowKit

theorem same_bytes {a b : ByteArray} (h : a.toList = b.toList) : a = b := by
  rw [ByteArray.toList_eq, ByteArray.toList_eq] at h
  exact ByteArray.ext (Array.ext' h)
theorem word_size {s : List UInt8} {o : ByteArray} (h : o.data.toList = wordL s) (hs : s.length ≤ 1000) : o.size ≤ 140737488351232 := by
  have e : o.size = (wordL s).length := by rw [← h]; simp
  have := (escL_len s).2
  rw [e]
  show (escL s).length + 2 ≤ _
  omega
set_option maxRecDepth 100000 in
set_option maxHeartbeats 8000000 in
theorem plain_law (s : ByteArray) (hs : s.size ≤ maxLen) (l : ByteArray) (hl : l.size ≤ maxLen) (W : World) :
    Calls Try.prog 12 #[.string s, .string l] W fun e w' => e = .returned (.bool true) ∧ Below W.heap.size W w' := by
  have HFIN : Hid (∀ w', Upd (fun _ => False) W w' → Below W.heap.size W w') := Lib.hid (fun w' h => h.below (Nat.le_refl _) (fun _ _ h => h))
  have HUB := Lib.hid (Upd.refl (fun _ => False) W)
  obtain ⟨w, rfl⟩ : ∃ w, w = W := ⟨_, rfl⟩
  have hU0 := Upd.refl (fun k => w.heap.size ≤ k) w
  have hz := Nat.le_refl w.heap.size
  clear hs hl
  go_enter Try.func12, Try.ntmps12
  rcases (show 40 < s.size ∨ (¬ 40 < s.size ∧ 60 < l.size) ∨ (¬ 40 < s.size ∧ ¬ 60 < l.size) by omega) with h1 | ⟨h1, h2⟩ | ⟨h1, h2⟩
  · have g1 : (40 : Int) < (s.size : Int) := by omega
    go_wp2_with (first
      | (go_at_call 17; refine known_any.mono ?_; rintro e w9 ⟨rfl, hq9⟩; replace hz := Nat.le_trans hz (hq9).size; replace hU0 := hU0.then hq9 (fun _ _ h => h.elim); clear hq9))
    go_ret
    exact ⟨rfl, HFIN.out _ (HUB.out.then hU0.old (fun _ _ h => h))⟩
  · have g1 : ¬ (40 : Int) < (s.size : Int) := by omega
    have g2 : (60 : Int) < (l.size : Int) := by omega
    go_wp2_with (first
      | (go_at_call 17; refine known_any.mono ?_; rintro e w9 ⟨rfl, hq9⟩; replace hz := Nat.le_trans hz (hq9).size; replace hU0 := hU0.then hq9 (fun _ _ h => h.elim); clear hq9))
    go_ret
    exact ⟨rfl, HFIN.out _ (HUB.out.then hU0.old (fun _ _ h => h))⟩
  · have g1 : ¬ (40 : Int) < (s.size : Int) := by omega
    have g2 : ¬ (60 : Int) < (l.size : Int) := by omega
    have hs0 : s.size ≤ 40 := by omega
    have hl0 : l.size ≤ 140737488351232 := by omega
    have hss : s.data.toList.length = s.size := by simp
    have hls : l.data.toList.length = l.size := by simp
    obtain ⟨m1, l1, is1, j, hr1, hjl, hjc⟩ := from_text false s.data.toList l.data.toList (by omega) (by omega)
    rw [hls] at hr1 hjc
    rw [hss] at hjc
    have hq := comp_word s.data.toList (by omega) false
    obtain ⟨q, hqq⟩ : ∃ q, qWord s.data.toList false = q := ⟨_, rfl⟩
    rw [hqq] at hr1 hq
    clear hqq
    obtain ⟨D1, hD1⟩ : ∃ D, matchC m1 = D := ⟨_, rfl⟩
    have hl1 := fromF_len _ _ _ _ _ _ hr1
    simp only [] at hl1
    have MD1 : Hid (MD D1) := Lib.hid (by rw [← hD1]; exact md_of hl1)
    have HF : Hid (is1 = true → D1[0]? = some (.int .i64 (j : Int)) ∧ D1[1]? = some (.int .i64 ((j : Int) + (s.size : Int)))) := Lib.hid (fun hi => by
      rcases hjc with ⟨_, rfl, _, _⟩ | ⟨h, _⟩
      · have h := wordM_ends j s.size
        rw [← hD1]
        have e0 := match_from (wordM j s.size)
        have e1 := match_to (wordM j s.size)
        rw [h.1] at e0
        rw [h.2, Int.natCast_add] at e1
        exact ⟨e0, e1⟩
      · rw [hi] at h; cases h)
    have HNE : Hid (∀ i : Nat, i < j → i + s.size ≤ l.size → ((l.extract i (i + s.size)).toList == s.toList) = false) := Lib.hid (fun i hi hb => beq_eq_false_iff_ne.mpr (fun e => by
      have := (eqAt_piece l s i hb).2 (same_bytes e)
      rw [hjl i hi] at this
      cases this))
    have HEQ : Hid (is1 = true → j + s.size ≤ l.size ∧ ((l.extract j (j + s.size)).toList == s.toList) = true) := Lib.hid (fun hi => by
      rcases hjc with ⟨_, _, h1, h2⟩ | ⟨h, _⟩
      · exact ⟨h1, beq_iff_eq.2 (by rw [(eqAt_piece l s j h1).1 h2])⟩
      · rw [hi] at h; cases h)
    have HNO : Hid (is1 = false → j = l.size + 1) := Lib.hid (fun hi => by
      rcases hjc with ⟨h, _⟩ | ⟨_, _, h⟩
      · rw [hi] at h; cases h
      · exact h)
    have HD1 := Lib.hid hD1
    have HR1 := Lib.hid hr1
    have HQ := Lib.hid hq
    have HSS := Lib.hid hss
    clear hr1 hD1 hl1 hjc hjl hq hss hls
    go_upto_region 3 with (first
      | (go_at_call 17; refine known_any.mono ?_; rintro e w9 ⟨rfl, hq9⟩; replace hz := Nat.le_trans hz (hq9).size; replace hU0 := hU0.then hq9 (fun _ _ h => h.elim); clear hq9))
    go_upto_region 4 with (first
    | (go_at_call 22; refine (lword_any s (by omega) _).mono ?_; rintro e w9 ⟨o, rfl, ho, rfl⟩; have HO := Lib.hid ho; clear ho)
    | (go_at_call 15; refine (compiled_any o false q (word_size HO.out (by have := HSS.out; omega)) (by rw [HO.out]; exact HQ.out)).mono ?_; rintro e w9 ⟨cvP, rfl, hcdP, huP⟩; obtain ⟨caP, ccP, rfl⟩ := hcdP.form; unfold progC; replace hz := Nat.le_trans hz (huP).size; replace hU0 := hU0.then huP (fun _ _ h => h.elim); replace HUB := Lib.hid (HUB.out.then hU0.old (fun _ _ h => h)); have HCP := Lib.hid hcdP.rows; clear hU0 hz hcdP huP; obtain ⟨w, rfl⟩ : ∃ x, x = w9 := ⟨_, rfl⟩; have hU0 := Upd.refl (fun k => w.heap.size ≤ k) w; have hz := Nat.le_refl w.heap.size)
    | ((with_reducible refine stopAl 31 rfl ?_); unfold Stop; refine wpList_alloc_blk rfl 31 rfl (.agg #[.slice none 0 0, .int .i64 0, .bool false]) (by kernel_rfl) #[.slice none 0 0, .int .i64 0, .bool false] rfl ?_; intro bP wn hbn kn hUn hsn; have gP : w.heap.size ≤ bP := Nat.le_trans hU0.size (Nat.le_of_eq hbn); have kP := kn; replace hU0 := hU0.then hUn (fun _ _ h => h.elim); replace hz : w.heap.size ≤ wn.heap.size := (by omega); clear kn hUn hsn hbn; have cP := cells_of kP; (try simp only [progC, zzT, zzO, zzS] at cP); have fP := frees_of kP)
    | ((with_reducible refine stopSt 31 _ _ rfl ?_); unfold Stop; refine wpList_store_blk rfl 31 _ _ rfl _ _ rfl _ (by go_simp; first | done | exact rfl) _ _ _ kP (zzB rfl) (by kernel_rfl) rfl (by simp only [spl, progC, Value.cells, zzT, zzO, zzS, Array.toList]; exact rfl) ?_; intro wn kn hUn hsn; clear cP fP; replace kP := kn; replace hU0 := hU0.then hUn (fun i hi (e : i = _) => by first | exact e | exact absurd hi (by omega) | (subst e; first | assumption | (show _ ≤ _; omega)) | exact .inl e | exact .inr e | exact .inr (.inl e) | exact .inr (.inr e)); replace hz := Nat.le_trans hz (Nat.le_of_eq hsn.symm); clear kn hUn hsn; have cP := cells_of kP; (try simp only [progC, zzT, zzO, zzS] at cP); have fP := frees_of kP))
    go_upto_region 5 with (first
    | ((with_reducible refine stopLd 31 _ rfl ?_); unfold Stop; refine wpList_load_row rfl 31 _ rfl _ rfl 31 _ (0, 0) _ kP Try.underlying31 rfl (by kernel_rfl) ?_)
    | (go_at_call 20; refine (from_any q caP ccP l 0 5000 (HCP.out.newer hU0) hl0 _ _ HR1.out).mono ?_; rintro e w9 ⟨rfl, hq9⟩; unfold resV; rw [HD1.out]; clear cP fP; replace kP := (hq9).heap kP (fun h => h); replace hz := Nat.le_trans hz (hq9).size; replace hU0 := hU0.then hq9 (fun _ _ h => h.elim); have cP := cells_of kP; (try simp only [progC, zzT, zzO, zzS] at cP); have fP := frees_of kP; clear hq9)
    | ((with_reducible refine stopAl 24 rfl ?_); unfold Stop; refine wpList_alloc_blk rfl 24 rfl (.agg #[.int .i64 0, .int .i64 0, .int .i64 0, .int .i64 0, .int .i64 0, .int .i64 0, .int .i64 0, .int .i64 0, .int .i64 0, .int .i64 0, .int .i64 0, .int .i64 0, .int .i64 0, .int .i64 0, .int .i64 0, .int .i64 0, .int .i64 0, .int .i64 0, .int .i64 0, .int .i64 0, .int .i64 0, .int .i64 0]) (by kernel_rfl) #[.int .i64 0, .int .i64 0, .int .i64 0, .int .i64 0, .int .i64 0, .int .i64 0, .int .i64 0, .int .i64 0, .int .i64 0, .int .i64 0, .int .i64 0, .int .i64 0, .int .i64 0, .int .i64 0, .int .i64 0, .int .i64 0, .int .i64 0, .int .i64 0, .int .i64 0, .int .i64 0, .int .i64 0, .int .i64 0] rfl ?_; intro bX wn hbn kn hUn hsn; clear cP fP; have lPX := heap_lt kP; rw [hbn] at lPX; replace kP := hUn.heap kP (fun h => h); have gX : w.heap.size ≤ bX := Nat.le_trans hU0.size (Nat.le_of_eq hbn); have kX := kn; replace hU0 := hU0.then hUn (fun _ _ h => h.elim); replace hz : w.heap.size ≤ wn.heap.size := (by omega); clear kn hUn hsn hbn; have cX := cells_of kX; (try simp only [progC, zzT, zzO, zzS] at cX); have fX := frees_of kX; have cP := cells_of kP; (try simp only [progC, zzT, zzO, zzS] at cP); have fP := frees_of kP)
    | ((with_reducible refine stopSt 24 _ _ rfl ?_); unfold Stop; refine wpList_store_blk rfl 24 _ _ rfl bX 0 rfl (.agg D1) rfl #[.int .i64 0, .int .i64 0, .int .i64 0, .int .i64 0, .int .i64 0, .int .i64 0, .int .i64 0, .int .i64 0, .int .i64 0, .int .i64 0, .int .i64 0, .int .i64 0, .int .i64 0, .int .i64 0, .int .i64 0, .int .i64 0, .int .i64 0, .int .i64 0, .int .i64 0, .int .i64 0, .int .i64 0, .int .i64 0] D1 _ kX MD1.out.le MD1.out.info MD1.out.ones MD1.out.spl ?_; intro w8 k8 hu8 hs8; clear cX fX; clear cP fP; replace kP := (hu8).heap kP ((by omega)); replace hz := Nat.le_trans hz (hu8).size; replace hU0 := hU0.then hu8 (fun i hi (e : i = bX) => by omega); have cP := cells_of kP; (try simp only [progC, zzT, zzO, zzS] at cP); have fP := frees_of kP; have kXv := k8; clear k8 kX hu8 hs8; have cXv := cells_of kXv; (try simp only [progC, zzT, zzO, zzS] at cXv); have fXv := frees_of kXv))
    clear cXv
    have HKX := Lib.hid kXv
    have HUE := Lib.hid hU0
    obtain ⟨wS, rfl⟩ : ∃ x, x = w8 := ⟨_, rfl⟩
    clear kXv hU0 hz
    go_wp2_with fail
    go_loopg [10, 11] (l.size + 2) (fun gk kv iv wr => ∃ i : Nat, iv = .int .i64 (i : Int) ∧ i + gk = l.size + 2 ∧ i ≤ l.size + 1 ∧ ((kv = .int .i64 (-1) ∧ i ≤ j) ∨ (kv = .int .i64 (j : Int) ∧ is1 = true)) ∧ Upd (fun _ => False) wS wr)
    case atStart => exact ⟨0, rfl, by omega, by omega, .inl ⟨rfl, Nat.zero_le _⟩, Upd.refl _ _⟩
    case round =>
      obtain ⟨i, rfl, hi, hi2, hst, hW⟩ := hrel
      have kX := hW.heap HKX.out (fun h => h)
      have HW := Lib.hid hW
      clear hW
      rcases hst with ⟨rfl, hij⟩ | ⟨rfl, hI⟩
      · by_cases hlt : i + s.size ≤ l.size
        · have gi : (i : Int) + (s.size : Int) ≤ (l.size : Int) := by omega
          by_cases he : i = j
          · subst he
            have hI : is1 = true := by
              cases is1
              · have := HNO.out rfl; omega
              · rfl
            have hx := (HEQ.out hI).2
            have HI := Lib.hid hI
            clear kX hI
            go_wp2_with fail
            go_roundg (gk - 1)
            case measure => omega
            case rel => exact ⟨i + 1, by go_num, by omega, by omega, .inr ⟨rfl, HI.out⟩, HW.out⟩
          · have hx := HNE.out i (by omega) hlt
            clear kX
            go_wp2_with fail
            go_roundg (gk - 1)
            case measure => omega
            case rel => exact ⟨i + 1, by go_num, by omega, by omega, .inl ⟨rfl, by omega⟩, HW.out⟩
        · have gi : ¬ (i : Int) + (s.size : Int) ≤ (l.size : Int) := by omega
          have hI : is1 = false := by
            cases is1
            · rfl
            · have := (HEQ.out rfl).1; omega
          subst hI
          clear kX
          go_wp2_with fail
          go_ret
          exact ⟨rfl, HFIN.out _ (HUB.out.then ((HUE.out.then HW.out (fun _ _ h => h.elim)).old) (fun _ _ h => h))⟩
      · subst hI
        have d0 := cell_of kX 0 (HF.out rfl).1
        have d1 := cell_of kX 1 (HF.out rfl).2
        have gj : ¬ (j : Int) < 0 := by omega
        have gj2 : (0 : Int) ≤ (j : Int) := by omega
        have hjm := (HEQ.out rfl).1
        clear kX
        by_cases hlt : i + s.size ≤ l.size
        · have gi : (i : Int) + (s.size : Int) ≤ (l.size : Int) := by omega
          go_wp2_with fail
          go_ret
          exact ⟨rfl, HFIN.out _ (HUB.out.then ((HUE.out.then HW.out (fun _ _ h => h.elim)).old) (fun _ _ h => h))⟩
        · have gi : ¬ (i : Int) + (s.size : Int) ≤ (l.size : Int) := by omega
          go_wp2_with fail
          go_ret
          exact ⟨rfl, HFIN.out _ (HUB.out.then ((HUE.out.then HW.out (fun _ _ h => h.elim)).old) (fun _ _ h => h))⟩
end Go.Proofs.Ytigbfgmgdfnhcaa
