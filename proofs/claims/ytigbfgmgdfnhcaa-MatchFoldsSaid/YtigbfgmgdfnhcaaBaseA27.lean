/- Lemmas that the law's proof stands on, part 27: SndP, Same, Tak. No condition. -/
import Derived.Test.YtigbfgmgdfnhcaaBaseA0
import Derived.Test.YtigbfgmgdfnhcaaBaseA1
import Derived.Test.YtigbfgmgdfnhcaaBaseA26
set_option linter.all false
set_option linter.unusedVariables false
set_option linter.unusedSimpArgs false
namespace Go.Proofs.Ytigbfgmgdfnhcaa
open Go.RowKit
set_option maxRecDepth 100000 in
set_option maxHeartbeats 8000000 in
theorem pred_any {w : World} (p : ProgD) (x : InstD) (ca : Option Addr) (cc bP : Nat) (kP : w.heap[bP]? = some (.cells (progC p (.slice ca p.code.length cc)) 31 (0, 0))) :
    Calls Try.prog 37 #[.agg (instC x).toArray, .pointer (some ⟨bP, 0, none⟩)] w fun e w' => e = .returned (.bool (!fineB p x)) ∧ Upd (fun _ => False) w w' := by
  have hU0 := Upd.refl (fun _ => False) w
  have hz := Nat.le_refl w.heap.size
  unfold progC at kP
  unfold instC
  have cP := cells_of kP; (try simp only [progC, instC, zzT, zzO, zzS] at cP); have fP := frees_of kP
  obtain ⟨E, hE⟩ : ∃ E, fineB p x = E := ⟨_, rfl⟩
  have HE := Lib.hid hE
  rw [hE]
  clear hE
  go_enter Try.func37, Try.ntmps37
  go_wp2_with (first
    | ((with_reducible refine stopBx 63 _ rfl ?_); unfold Stop; refine wpList_box_blk rfl 63 _ rfl _ (by go_simp; first | done | exact rfl) #[.int .u8 x.op, .int .u8 x.c, .int .u64 x.set.a0, .int .u64 x.set.a1, .int .u64 x.set.a2, .int .u64 x.set.a3, .int .i64 x.x, .int .i64 x.y] rfl ?_; intro bI wn hbn kn hUn hsn; clear cP fP; have lPI := heap_lt kP; rw [hbn] at lPI; replace kP := hUn.heap kP (fun h => h); have gI : w.heap.size ≤ bI := Nat.le_trans hU0.size (Nat.le_of_eq hbn); have kI := kn; replace hU0 := hU0.then hUn (fun _ _ h => h.elim); replace hz : w.heap.size ≤ wn.heap.size := (by omega); clear kn hUn hsn hbn; have cI := cells_of kI; (try simp only [progC, instC, zzT, zzO, zzS] at cI); have fI := frees_of kI; have cP := cells_of kP; (try simp only [progC, instC, zzT, zzO, zzS] at cP); have fP := frees_of kP)
    | ((with_reducible refine stopLd 63 _ rfl ?_); unfold Stop; refine wpList_load_row rfl 63 _ rfl _ rfl 63 _ (0, 0) _ kI Try.underlying63 rfl (by kernel_rfl) ?_)
    | ((with_reducible refine stopLd 31 _ rfl ?_); unfold Stop; refine wpList_load_row rfl 31 _ rfl _ rfl 31 _ (0, 0) _ kP Try.underlying31 rfl (by kernel_rfl) ?_)
    | (go_at_call 38; refine (fine_any2 p x ca cc).mono ?_; rintro e w5 ⟨rfl, hqq⟩; rw [HE.out]; replace hU0 := hU0.then hqq (fun _ _ h => h); clear hqq))
  go_ret
  exact ⟨rfl, hU0⟩
set_option maxRecDepth 100000 in
set_option maxHeartbeats 8000000 in
theorem index_any {w : World} (p : ProgD) (ca : Option Addr) (cc bP : Nat) (hc : CodeR w ca p.code) (h2 : p.code.length ≤ 2000) (kP : w.heap[bP]? = some (.cells (progC p (.slice ca p.code.length cc)) 31 (0, 0))) :
    Calls Try.prog 54 #[.slice ca p.code.length cc, .func (.func 37) #[] #[.pointer (some ⟨bP, 0, none⟩)]] w fun e w' => ∃ r : Int, e = .returned (.int .i64 r) ∧ decide (0 ≤ r) = !p.code.all (fineB p) ∧ Upd (fun _ => False) w w' := by
  have hU0 := Upd.refl (fun _ => False) w
  have HC := Lib.hid hc
  clear hc
  go_enter Try.func54, Try.ntmps54
  go_wp2
  go_loopg [8] p.code.length (fun gk iv wr => ∃ (i : Nat), iv = .int .i64 (i : Nat) ∧ i + gk = p.code.length ∧ Hid ((p.code.take i).all (fineB p) = true) ∧ Upd (fun _ => False) w wr)
  case atStart => exact ⟨0, rfl, by omega, Lib.hid rfl, hU0⟩
  case round =>
    clear hU0
    obtain ⟨i, rfl, hi, hT, hU0⟩ := hrel
    by_cases hlt : i < p.code.length
    · obtain ⟨A, hA, hAb, hAc⟩ := HC.out.newer (hU0.mono (fun _ _ h => h.elim)) i hlt
      obtain ⟨x, hx⟩ : ∃ x, p.code[i] = x := ⟨_, rfl⟩
      rw [hx] at hAc
      subst hA
      have HX := Lib.hid hx
      have HAC := Lib.hid hAc
      have HP := Lib.hid (hU0.heap kP (fun h => h))
      clear hx hAc
      obtain ⟨E, hE⟩ : ∃ E, fineB p x = E := ⟨_, rfl⟩
      have HE := Lib.hid hE
      clear hE
      have hi2 : i + 1 + (gk - 1) = p.code.length := by omega
      cases E
      · go_wp2_with (first
          | ((with_reducible refine stopLd 63 _ rfl ?_); unfold Stop; refine wpList_load_any rfl 63 _ rfl (A.add (i * 8)) rfl (instC x) _ HAC.out Try.underlying63 rfl (by kernel_rfl) ?_)
          | (go_at_call 37; refine (pred_any p x _ cc bP HP.out).mono ?_; rintro e w5 ⟨rfl, hqq⟩; rw [HE.out]; replace hU0 := hU0.then hqq (fun _ _ h => h); clear hqq))
        go_ret
        exact ⟨_, rfl, by rw [all_bad hlt (by rw [HX.out]; exact HE.out)]; simp, hU0⟩
      · go_wp2_with (first
          | ((with_reducible refine stopLd 63 _ rfl ?_); unfold Stop; refine wpList_load_any rfl 63 _ rfl (A.add (i * 8)) rfl (instC x) _ HAC.out Try.underlying63 rfl (by kernel_rfl) ?_)
          | (go_at_call 37; refine (pred_any p x _ cc bP HP.out).mono ?_; rintro e w5 ⟨rfl, hqq⟩; rw [HE.out]; replace hU0 := hU0.then hqq (fun _ _ h => h); clear hqq))
        go_roundg (gk - 1)
        case measure => omega
        case rel => exact ⟨i + 1, by go_num, hi2, Lib.hid (all_take2 hlt hT.out (by rw [HX.out]; exact HE.out)), hU0⟩
    · have hin : i = p.code.length := by omega
      subst hin
      go_wp2
      go_ret
      exact ⟨_, rfl, by have h1 := hT.out; rw [List.take_length] at h1; rw [h1]; rfl, hU0⟩
set_option maxRecDepth 100000 in
theorem contains_any {w : World} (p : ProgD) (ca : Option Addr) (cc bP : Nat) (hc : CodeR w ca p.code) (h2 : p.code.length ≤ 2000) (kP : w.heap[bP]? = some (.cells (progC p (.slice ca p.code.length cc)) 31 (0, 0))) :
    Calls Try.prog 36 #[.slice ca p.code.length cc, .func (.func 37) #[] #[.pointer (some ⟨bP, 0, none⟩)]] w fun e w' => e = .returned (.bool (!p.code.all (fineB p))) ∧ Upd (fun _ => False) w w' := by
  have HK := Lib.hid (index_any p ca cc bP hc h2 kP)
  clear hc kP
  obtain ⟨E, hE⟩ : ∃ E, (!p.code.all (fineB p)) = E := ⟨_, rfl⟩
  rw [hE] at HK ⊢
  clear hE
  go_enter Try.func36, Try.ntmps36
  go_wp2_with (first
    | (go_at_call 54; refine HK.out.mono ?_; rintro e w5 ⟨r, rfl, hr, hqq⟩))
  go_ret
  exact ⟨rfl, hqq⟩
set_option maxRecDepth 100000 in
set_option maxHeartbeats 8000000 in
theorem sound2_any {w : World} (p : ProgD) (ca : Option Addr) (cc : Nat) (hc : CodeR w ca p.code) :
    Calls Try.prog 25 #[.agg (progC p (.slice ca p.code.length cc))] w fun e w' => e = .returned (.bool (soundB p)) ∧ Upd (fun _ => False) w w' := by
  have hU0 := Upd.refl (fun _ => False) w
  have hz := Nat.le_refl w.heap.size
  have HC := Lib.hid hc
  unfold progC
  clear hc
  obtain ⟨E, hE⟩ : ∃ E, soundB p = E := ⟨_, rfl⟩
  have HE := Lib.hid hE
  rw [hE]
  clear hE
  by_cases h1 : 1 ≤ p.code.length ∧ p.code.length ≤ 2000 ∧ 0 ≤ p.rounds ∧ p.rounds ≤ 2000
  · obtain ⟨h1, h2, h3, h4⟩ := h1
    have HE2 := Lib.hid (HE.out.symm.trans (soundB_good h1 h2 h3 h4))
    obtain ⟨A, hA, hAb, hAc⟩ := HC.out (p.code.length - 1) (by omega)
    have hL := last_op (l := p.code) (by omega)
    obtain ⟨x, hx⟩ : ∃ x, p.code[p.code.length - 1] = x := ⟨_, rfl⟩
    rw [hx] at hAc hL
    subst hA
    have HE3 : Hid (E = (p.code.all (fineB p) && (x.op == 14 || x.op == 5))) := Lib.hid (by rw [HE2.out, hL])
    have d0 : w.cell? (A.add ((p.code.length - 1) * 8)) = some (.int .u8 x.op) := hAc 0 _ rfl
    have HD0 := Lib.hid d0
    have hbl : (A.add ((p.code.length - 1) * 8)).block < w.heap.size := by rw [Addr.add_block]; exact hAb
    clear hAc hx hL HE2 d0
    have e1 : ((p.code.length : Int) - 1) = ((p.code.length - 1 : Nat) : Int) := by omega
    obtain ⟨F, hF⟩ : ∃ F, p.code.all (fineB p) = F := ⟨_, rfl⟩
    have HF := Lib.hid hF
    rw [hF] at HE3
    clear hF
    have g0 : ((p.code.length : Int) == 0) = false := beq_eq_false_iff_ne.mpr (by omega)
    go_enter Try.func25, Try.ntmps25
    cases F
    · go_wp2_with (first
        | ((with_reducible refine stopBx 31 _ rfl ?_); unfold Stop; refine wpList_box_blk rfl 31 _ rfl _ (by go_simp; first | done | exact rfl) #[.slice (some A) p.code.length cc, .int .i64 p.rounds, .bool p.fold] rfl ?_; intro bP wn hbn kn hUn hsn; have gP : w.heap.size ≤ bP := Nat.le_trans hU0.size (Nat.le_of_eq hbn); have kP := kn; replace hU0 := hU0.then hUn (fun _ _ h => h.elim); replace hz : w.heap.size ≤ wn.heap.size := (by omega); clear kn hUn hsn hbn; have cP := cells_of kP; (try simp only [progC, instC, zzT, zzO, zzS] at cP); have fP := frees_of kP)
        | (go_at_call 36; refine (contains_any p (some A) cc bP (HC.out.newer (hU0.mono (fun _ _ h => h.elim))) h2 kP).mono ?_; rintro e w5 ⟨rfl, hqq⟩; rw [HF.out]; clear cP fP; replace kP := (hqq).heap kP (fun h => h); replace hz := Nat.le_trans hz (hqq).size; replace hU0 := hU0.then hqq (fun _ _ h => h.elim); have cP := cells_of kP; (try simp only [progC, instC, zzT, zzO, zzS] at cP); have fP := frees_of kP; clear hqq))
      go_ret
      exact ⟨ret_bool HE3.out.symm, hU0⟩
    · by_cases h14 : x.op = 14
      · have g14 : (x.op == 14) = true := by simpa using h14
        have HE4 : Hid (E = true) := Lib.hid (by rw [HE3.out, g14]; rfl)
        clear h14 HE3
        go_wp2_with (first
          | ((with_reducible refine stopBx 31 _ rfl ?_); unfold Stop; refine wpList_box_blk rfl 31 _ rfl _ (by go_simp; first | done | exact rfl) #[.slice (some A) p.code.length cc, .int .i64 p.rounds, .bool p.fold] rfl ?_; intro bP wn hbn kn hUn hsn; have gP : w.heap.size ≤ bP := Nat.le_trans hU0.size (Nat.le_of_eq hbn); have kP := kn; replace hU0 := hU0.then hUn (fun _ _ h => h.elim); replace hz : w.heap.size ≤ wn.heap.size := (by omega); clear kn hUn hsn hbn; have cP := cells_of kP; (try simp only [progC, instC, zzT, zzO, zzS] at cP); have fP := frees_of kP)
          | (go_at_call 36; refine (contains_any p (some A) cc bP (HC.out.newer (hU0.mono (fun _ _ h => h.elim))) h2 kP).mono ?_; rintro e w5 ⟨rfl, hqq⟩; rw [HF.out]; clear cP fP; replace kP := (hqq).heap kP (fun h => h); replace hz := Nat.le_trans hz (hqq).size; replace hU0 := hU0.then hqq (fun _ _ h => h.elim); have cP := cells_of kP; (try simp only [progC, instC, zzT, zzO, zzS] at cP); have fP := frees_of kP; have d0 := hU0.cell HD0.out (fun h => h); clear hqq))
        go_ret
        exact ⟨ret_bool HE4.out.symm, hU0⟩
      · have g14 : (x.op == 14) = false := by simpa using h14
        have HE4 : Hid (E = (x.op == 5)) := Lib.hid (by rw [HE3.out, g14]; rfl)
        clear h14 HE3
        go_wp2_with (first
          | ((with_reducible refine stopBx 31 _ rfl ?_); unfold Stop; refine wpList_box_blk rfl 31 _ rfl _ (by go_simp; first | done | exact rfl) #[.slice (some A) p.code.length cc, .int .i64 p.rounds, .bool p.fold] rfl ?_; intro bP wn hbn kn hUn hsn; have gP : w.heap.size ≤ bP := Nat.le_trans hU0.size (Nat.le_of_eq hbn); have kP := kn; replace hU0 := hU0.then hUn (fun _ _ h => h.elim); replace hz : w.heap.size ≤ wn.heap.size := (by omega); clear kn hUn hsn hbn; have cP := cells_of kP; (try simp only [progC, instC, zzT, zzO, zzS] at cP); have fP := frees_of kP)
          | (go_at_call 36; refine (contains_any p (some A) cc bP (HC.out.newer (hU0.mono (fun _ _ h => h.elim))) h2 kP).mono ?_; rintro e w5 ⟨rfl, hqq⟩; rw [HF.out]; clear cP fP; replace kP := (hqq).heap kP (fun h => h); replace hz := Nat.le_trans hz (hqq).size; replace hU0 := hU0.then hqq (fun _ _ h => h.elim); have cP := cells_of kP; (try simp only [progC, instC, zzT, zzO, zzS] at cP); have fP := frees_of kP; have d0 := hU0.cell HD0.out (fun h => h); clear hqq))
        go_ret
        exact ⟨ret_bool HE4.out.symm, hU0⟩
  · have HE2 : Hid (E = false) := Lib.hid (by rw [← HE.out, Bool.eq_false_iff]; intro e; unfold soundB at e; simp only [Bool.and_eq_true, decide_eq_true_eq] at e; exact h1 ⟨e.1.1.1.1.1, e.1.1.1.1.2, e.1.1.1.2, e.1.1.2⟩)
    clear HE
    by_cases g1 : 1 ≤ p.code.length
    · have g0 : ((p.code.length : Int) == 0) = false := beq_eq_false_iff_ne.mpr (by omega)
      by_cases g2 : p.code.length ≤ 2000
      · by_cases g3 : 0 ≤ p.rounds
        · have g4 : ¬ p.rounds ≤ 2000 := fun g4 => h1 ⟨g1, g2, g3, g4⟩
          clear h1
          go_enter Try.func25, Try.ntmps25
          go_wp2_with (first
            | ((with_reducible refine stopBx 31 _ rfl ?_); unfold Stop; refine wpList_box_blk rfl 31 _ rfl _ (by go_simp; first | done | exact rfl) #[.slice ca p.code.length cc, .int .i64 p.rounds, .bool p.fold] rfl ?_; intro bP wn hbn kn hUn hsn; have gP : w.heap.size ≤ bP := Nat.le_trans hU0.size (Nat.le_of_eq hbn); have kP := kn; replace hU0 := hU0.then hUn (fun _ _ h => h.elim); replace hz : w.heap.size ≤ wn.heap.size := (by omega); clear kn hUn hsn hbn; have cP := cells_of kP; (try simp only [progC, instC, zzT, zzO, zzS] at cP); have fP := frees_of kP))
          all_goals (first | go_end0 | go_ret)
          all_goals exact ⟨ret_bool HE2.out.symm, hU0⟩
        · clear h1
          go_enter Try.func25, Try.ntmps25
          go_wp2_with (first
            | ((with_reducible refine stopBx 31 _ rfl ?_); unfold Stop; refine wpList_box_blk rfl 31 _ rfl _ (by go_simp; first | done | exact rfl) #[.slice ca p.code.length cc, .int .i64 p.rounds, .bool p.fold] rfl ?_; intro bP wn hbn kn hUn hsn; have gP : w.heap.size ≤ bP := Nat.le_trans hU0.size (Nat.le_of_eq hbn); have kP := kn; replace hU0 := hU0.then hUn (fun _ _ h => h.elim); replace hz : w.heap.size ≤ wn.heap.size := (by omega); clear kn hUn hsn hbn; have cP := cells_of kP; (try simp only [progC, instC, zzT, zzO, zzS] at cP); have fP := frees_of kP))
          all_goals (first | go_end0 | go_ret)
          all_goals exact ⟨ret_bool HE2.out.symm, hU0⟩
      · clear h1
        go_enter Try.func25, Try.ntmps25
        go_wp2_with (first
          | ((with_reducible refine stopBx 31 _ rfl ?_); unfold Stop; refine wpList_box_blk rfl 31 _ rfl _ (by go_simp; first | done | exact rfl) #[.slice ca p.code.length cc, .int .i64 p.rounds, .bool p.fold] rfl ?_; intro bP wn hbn kn hUn hsn; have gP : w.heap.size ≤ bP := Nat.le_trans hU0.size (Nat.le_of_eq hbn); have kP := kn; replace hU0 := hU0.then hUn (fun _ _ h => h.elim); replace hz : w.heap.size ≤ wn.heap.size := (by omega); clear kn hUn hsn hbn; have cP := cells_of kP; (try simp only [progC, instC, zzT, zzO, zzS] at cP); have fP := frees_of kP))
        all_goals (first | go_end0 | go_ret)
        all_goals exact ⟨ret_bool HE2.out.symm, hU0⟩
    · have g0 : ((p.code.length : Int) == 0) = true := beq_iff_eq.mpr (by omega)
      clear h1
      go_enter Try.func25, Try.ntmps25
      go_wp2_with (first
        | ((with_reducible refine stopBx 31 _ rfl ?_); unfold Stop; refine wpList_box_blk rfl 31 _ rfl _ (by go_simp; first | done | exact rfl) #[.slice ca p.code.length cc, .int .i64 p.rounds, .bool p.fold] rfl ?_; intro bP wn hbn kn hUn hsn; have gP : w.heap.size ≤ bP := Nat.le_trans hU0.size (Nat.le_of_eq hbn); have kP := kn; replace hU0 := hU0.then hUn (fun _ _ h => h.elim); replace hz : w.heap.size ≤ wn.heap.size := (by omega); clear kn hUn hsn hbn; have cP := cells_of kP; (try simp only [progC, instC, zzT, zzO, zzS] at cP); have fP := frees_of kP))
      all_goals (first | go_end0 | go_ret)
      all_goals exact ⟨ret_bool HE2.out.symm, hU0⟩
end Go.Proofs.Ytigbfgmgdfnhcaa
namespace Go.Proofs.Ytigbfgmgdfnhcaa
open Go.RowKit
theorem Small_all (c : Int) (w : World) :
    Calls Try.prog 58 #[.int .u8 c] w fun e w' => e = .returned (.int .u8 (smallI c)) ∧ w = w' := by
  by_cases h : greatB c = true
  · have hb := btw_iff.1 h
    have hb1 := hb.1
    have hb2 := hb.2
    clear hb
    go_enter Try.func58, Try.ntmps58
    go_wp2_with (go_at_call 71; refine (great_any _ _).mono ?_; rintro e w' ⟨rfl, rfl⟩)
    all_goals go_ret
    all_goals exact ⟨ret_int (by simp [smallI, h]), rfl⟩
  · go_enter Try.func58, Try.ntmps58
    go_wp2_with (go_at_call 71; refine (great_any _ _).mono ?_; rintro e w' ⟨rfl, rfl⟩)
    all_goals go_ret
    all_goals exact ⟨ret_int (by simp [smallI, h]), rfl⟩
theorem Same_all (a b : Int) (fold : Bool) (w : World) :
    Calls Try.prog 56 #[.int .u8 a, .int .u8 b, .bool fold] w fun e w' => e = .returned (.bool (sameB a b fold)) ∧ w = w' := by
  go_enter Try.func56, Try.ntmps56
  go_wp2_with (go_at_call 58; refine (Small_all _ _).mono ?_; rintro e w' ⟨rfl, rfl⟩)
  all_goals go_ret
  all_goals exact ⟨ret_bool (by simp_all [sameB]), rfl⟩
theorem rSmall_all (c : Int) (w : World) :
    Calls Try.prog 31 #[.int .u8 c] w fun e w' => e = .returned (.int .u8 (smallI c)) ∧ w = w' := by
  by_cases h : greatB c = true
  · have hb := btw_iff.1 h
    have hb1 := hb.1
    have hb2 := hb.2
    clear hb
    go_enter Try.func31, Try.ntmps31
    go_wp2_with (go_at_call 32; refine (rgreat_any _ _).mono ?_; rintro e w' ⟨rfl, rfl⟩)
    all_goals go_ret
    all_goals exact ⟨ret_int (by simp [smallI, h]), rfl⟩
  · go_enter Try.func31, Try.ntmps31
    go_wp2_with (go_at_call 32; refine (rgreat_any _ _).mono ?_; rintro e w' ⟨rfl, rfl⟩)
    all_goals go_ret
    all_goals exact ⟨ret_int (by simp [smallI, h]), rfl⟩
theorem rSame_all (a b : Int) (fold : Bool) (w : World) :
    Calls Try.prog 68 #[.int .u8 a, .int .u8 b, .bool fold] w fun e w' => e = .returned (.bool (sameB a b fold)) ∧ w = w' := by
  go_enter Try.func68, Try.ntmps68
  go_wp2_with (go_at_call 31; refine (rSmall_all _ _).mono ?_; rintro e w' ⟨rfl, rfl⟩)
  all_goals go_ret
  all_goals exact ⟨ret_bool (by simp_all [sameB]), rfl⟩
theorem and_one (x : Int) : bits BinOp.and .u64 x 1 = 0 ∨ bits BinOp.and .u64 x 1 = 1 := by
  have e : bits BinOp.and .u64 x 1 = IntKind.u64.wrap (((BitVec.ofInt 64 x &&& BitVec.ofInt 64 1).toNat : Nat) : Int) := rfl
  rw [e, BitVec.toNat_and, show (BitVec.ofInt 64 1).toNat = 1 from rfl, Nat.and_one_is_mod]
  rcases Nat.mod_two_eq_zero_or_one (BitVec.ofInt 64 x).toNat with h | h
  · left; rw [h]; rfl
  · right; rw [h]; rfl
theorem rhas_has (a0 a1 a2 a3 c : Int) : rhasB a0 a1 a2 a3 c = hasB a0 a1 a2 a3 c := by
  unfold rhasB hasB
  rcases and_one (selJ a0 a1 a2 a3 c / 2 ^ (c % 64).toNat) with h | h <;> rw [h] <;> rfl
theorem small_byte {c : Int} (h0 : 0 ≤ c) (h1 : c ≤ 255) : 0 ≤ smallI c ∧ smallI c ≤ 255 := by
  unfold smallI
  split
  · rename_i h; have := btw_iff.1 h; omega
  · exact ⟨h0, h1⟩
theorem great_byte {c : Int} (h0 : 0 ≤ c) (h1 : c ≤ 255) : 0 ≤ greatI c ∧ greatI c ≤ 255 := by
  unfold greatI
  split
  · rename_i h; have := btw_iff.1 h; omega
  · exact ⟨h0, h1⟩
theorem Has_set (x : SetD) (c : Int) (h0 : 0 ≤ c) (h1 : c ≤ 255) (w : World) :
    Calls Try.prog 57 #[.agg #[.int .u64 x.a0, .int .u64 x.a1, .int .u64 x.a2, .int .u64 x.a3], .int .u8 c] w fun e w' => e = .returned (.bool (hasD x c)) ∧ Upd (fun _ => False) w w' :=
  (Has_any _ _ _ _ c h0 h1 w).mono fun _ _ h => ⟨h.1, false_upd2 h.2⟩
theorem rHas_set (x : SetD) (c : Int) (h0 : 0 ≤ c) (h1 : c ≤ 255) (w : World) :
    Calls Try.prog 69 #[.agg #[.int .u64 x.a0, .int .u64 x.a1, .int .u64 x.a2, .int .u64 x.a3], .int .u8 c] w fun e w' => e = .returned (.bool (hasD x c)) ∧ Upd (fun _ => False) w w' :=
  (rHas_any _ _ _ _ c h0 h1 w).mono fun _ _ h => ⟨by rw [h.1, rhas_has]; rfl, false_upd2 h.2⟩
end Go.Proofs.Ytigbfgmgdfnhcaa
namespace Go.Proofs.Ytigbfgmgdfnhcaa
open Go.RowKit
theorem From.of_upd {w w1 w2 : World} (h : From w w1) (hu : Upd (fun _ => False) w1 w2) : From w w2 := h.trans (hu.below h.size (fun _ _ f => f))
theorem From.of_new {w W : World} {f : FuncId} {args : Array Value} {v : Value} (hC : From w W) (h : Calls Try.prog f args W fun e w' => e = .returned v ∧ Upd (fun _ => False) W w') : Calls Try.prog f args W fun e w' => e = .returned v ∧ From w w' :=
  h.mono fun _ _ h => ⟨h.1, hC.of_upd h.2⟩
theorem upd_from {w w' : World} (h : From w w') : Upd (fun _ => False) w w' := false_upd2 h
set_option maxRecDepth 100000 in
set_option maxHeartbeats 8000000 in
theorem takes_any {w : World} (bM : Nat) (cv tv : Value) (r : Int) (fold : Bool) (line : ByteArray) (kM : w.heap[bM]? = some (.cells #[cv, .int .i64 r, .bool fold, .string line, tv] 58 (0, 0))) (i : InstD) (c : Int) (h0 : 0 ≤ c) (h9 : c ≤ 255) :
    Calls Try.prog 39 #[.pointer (some ⟨bM, 0, none⟩), .agg (instC i).toArray, .int .u8 c] w fun e w' => e = .returned (.bool (takesF fold i c)) ∧ Upd (fun _ => False) w w' := by
  have hU0 := Upd.refl (fun _ => False) w
  have hz := Nat.le_refl w.heap.size
  unfold instC
  have cM := cells_of kM; (try simp only [instC, zzT, zzO, zzS] at cM); have fM := frees_of kM
  obtain ⟨E, hE⟩ : ∃ E, takesF fold i c = E := ⟨_, rfl⟩
  have HE := Lib.hid hE
  rw [hE]
  clear hE
  go_enter Try.func39, Try.ntmps39
  go_upto_region 2 with (first
    | ((with_reducible refine stopBx 63 _ rfl ?_); unfold Stop; refine wpList_box_blk rfl 63 _ rfl _ (by go_simp; first | done | exact rfl) #[.int .u8 i.op, .int .u8 i.c, .int .u64 i.set.a0, .int .u64 i.set.a1, .int .u64 i.set.a2, .int .u64 i.set.a3, .int .i64 i.x, .int .i64 i.y] rfl ?_; intro bI wn hbn kn hUn hsn; clear cM fM; have lMI := heap_lt kM; rw [hbn] at lMI; replace kM := hUn.heap kM (fun h => h); have gI : w.heap.size ≤ bI := Nat.le_trans hU0.size (Nat.le_of_eq hbn); have kI := kn; replace hU0 := hU0.then hUn (fun _ _ h => h.elim); replace hz : w.heap.size ≤ wn.heap.size := (by omega); clear kn hUn hsn hbn; have cI := cells_of kI; (try simp only [instC, zzT, zzO, zzS] at cI); have fI := frees_of kI; have cM := cells_of kM; (try simp only [instC, zzT, zzO, zzS] at cM); have fM := frees_of kM))
  by_cases g1 : i.op = 1
  · have h1 : (i.op == 1) = true := by simpa using g1
    have HE2 : Hid (E = sameB c i.c fold) := Lib.hid (by rw [← HE.out]; unfold takesF; rw [if_pos g1])
    clear g1
    have f1 := cI 1
    have f2 := cM 2
    go_wp2
    first | (refine wq_region_from_still ?_) | (refine wq_region_from (by kernel_rfl) (by kernel_rfl) ?_)
    repeat
      first
        | ((refine WQ_skip (by rfl) ?_); (try simp only [Act.put, zzT, zzO, zzS]))
        | (apply WQ_val (by rfl); (focus (intro w' hC; (have e0 := From.cell hC f1; have e1 := From.cell hC f2); go_simp; (first | done | exact rfl | (rw [if_pos (by omega)]; done) | (exact str_idx (by omega))))); (try simp only [Act.put, zzT, zzO, zzS]))
        | (apply WQ_call (by rfl); (focus (intro w' hC; go_simp; (first | done | exact rfl | exact ⟨rfl, rfl⟩))); (focus (intro w' hC; first | (with_reducible exact From.of_same hC (Same_all _ _ _ _)))); (try simp only [Act.put, zzT, zzO, zzS]))
    refine WQ_nil ?_
    intro wq hq
    go_wp2
    go_ret
    exact ⟨ret_bool HE2.out.symm, hU0.then (upd_from hq) (fun _ _ h => h)⟩
  · have h1 : (i.op == 1) = false := by simpa using g1
    by_cases g3 : i.op = 3
    · have h3 : (i.op == 3) = true := by simpa using g3
      have f2 := cI 2
      have f3 := cI 3
      have f4 := cI 4
      have f5 := cI 5
      have fM := cM 2
      have HE2 : Hid (E = (hasD i.set c || fold && (hasD i.set (smallI c) || hasD i.set (greatI c)))) := Lib.hid (by rw [← HE.out]; unfold takesF; rw [if_neg g1, if_pos g3])
      clear g1 g3
      have HG := Lib.hid (fun w => Great_any c h0 h9 w)
      obtain ⟨A, hA⟩ : ∃ A, hasD i.set c = A := ⟨_, rfl⟩
      obtain ⟨B, hB⟩ : ∃ B, hasD i.set (smallI c) = B := ⟨_, rfl⟩
      obtain ⟨D, hD⟩ : ∃ D, hasD i.set (greatI c) = D := ⟨_, rfl⟩
      have HA := Lib.hid (fun w => Has_set i.set c h0 h9 w)
      have HB := Lib.hid (fun w => Has_set i.set (smallI c) (small_byte h0 h9).1 (small_byte h0 h9).2 w)
      have HD := Lib.hid (fun w => Has_set i.set (greatI c) (great_byte h0 h9).1 (great_byte h0 h9).2 w)
      rw [hA, hB, hD] at HE2
      rw [hA] at HA
      rw [hB] at HB
      rw [hD] at HD
      clear hA hB hD
      go_wp2
      cases A
      · cases fold
        · skip
          first | (refine wq_region_from_still ?_) | (refine wq_region_from (by kernel_rfl) (by kernel_rfl) ?_)
          repeat
            first
              | ((refine WQ_skip (by rfl) ?_); (try simp only [Act.put, zzT, zzO, zzS]))
              | (apply WQ_val (by rfl); (focus (intro w' hC; (have e0 := From.cell hC f2; have e1 := From.cell hC f3; have e3 := From.cell hC f4; have e4 := From.cell hC f5; have e5 := From.cell hC fM); go_simp; (first | done | exact rfl | (rw [if_pos (by omega)]; done) | (exact str_idx (by omega))))); (try simp only [Act.put, zzT, zzO, zzS]))
              | (apply WQ_call (by rfl); (focus (intro w' hC; go_simp; (first | done | exact rfl | exact ⟨rfl, rfl⟩))); (focus (intro w' hC; first | (with_reducible exact From.of_new hC (HA.out _)) | (with_reducible exact From.of_same hC (Small_all _ _)) | (with_reducible exact From.of_same hC (HG.out _)) | (with_reducible exact From.of_new hC (HB.out _)) | (with_reducible exact From.of_new hC (HD.out _)))); (try simp only [Act.put, zzT, zzO, zzS]))
          refine WQ_nil ?_
          intro wq hq
          go_wp2
          go_ret
          exact ⟨ret_bool (by rw [HE2.out]; rfl), hU0.then (upd_from hq) (fun _ _ h => h)⟩
        · cases B
          · skip
            first | (refine wq_region_from_still ?_) | (refine wq_region_from (by kernel_rfl) (by kernel_rfl) ?_)
            repeat
              first
                | ((refine WQ_skip (by rfl) ?_); (try simp only [Act.put, zzT, zzO, zzS]))
                | (apply WQ_val (by rfl); (focus (intro w' hC; (have e0 := From.cell hC f2; have e1 := From.cell hC f3; have e3 := From.cell hC f4; have e4 := From.cell hC f5; have e5 := From.cell hC fM); go_simp; (first | done | exact rfl | (rw [if_pos (by omega)]; done) | (exact str_idx (by omega))))); (try simp only [Act.put, zzT, zzO, zzS]))
                | (apply WQ_call (by rfl); (focus (intro w' hC; go_simp; (first | done | exact rfl | exact ⟨rfl, rfl⟩))); (focus (intro w' hC; first | (with_reducible exact From.of_new hC (HA.out _)) | (with_reducible exact From.of_same hC (Small_all _ _)) | (with_reducible exact From.of_same hC (HG.out _)) | (with_reducible exact From.of_new hC (HB.out _)) | (with_reducible exact From.of_new hC (HD.out _)))); (try simp only [Act.put, zzT, zzO, zzS]))
            refine WQ_nil ?_
            intro wq hq
            go_wp2
            go_ret
            exact ⟨ret_bool (by rw [HE2.out]; rfl), hU0.then (upd_from hq) (fun _ _ h => h)⟩
          · skip
            first | (refine wq_region_from_still ?_) | (refine wq_region_from (by kernel_rfl) (by kernel_rfl) ?_)
            repeat
              first
                | ((refine WQ_skip (by rfl) ?_); (try simp only [Act.put, zzT, zzO, zzS]))
                | (apply WQ_val (by rfl); (focus (intro w' hC; (have e0 := From.cell hC f2; have e1 := From.cell hC f3; have e3 := From.cell hC f4; have e4 := From.cell hC f5; have e5 := From.cell hC fM); go_simp; (first | done | exact rfl | (rw [if_pos (by omega)]; done) | (exact str_idx (by omega))))); (try simp only [Act.put, zzT, zzO, zzS]))
                | (apply WQ_call (by rfl); (focus (intro w' hC; go_simp; (first | done | exact rfl | exact ⟨rfl, rfl⟩))); (focus (intro w' hC; first | (with_reducible exact From.of_new hC (HA.out _)) | (with_reducible exact From.of_same hC (Small_all _ _)) | (with_reducible exact From.of_same hC (HG.out _)) | (with_reducible exact From.of_new hC (HB.out _)) | (with_reducible exact From.of_new hC (HD.out _)))); (try simp only [Act.put, zzT, zzO, zzS]))
            refine WQ_nil ?_
            intro wq hq
            go_wp2
            go_ret
            exact ⟨ret_bool (by rw [HE2.out]; rfl), hU0.then (upd_from hq) (fun _ _ h => h)⟩
      · skip
        first | (refine wq_region_from_still ?_) | (refine wq_region_from (by kernel_rfl) (by kernel_rfl) ?_)
        repeat
          first
            | ((refine WQ_skip (by rfl) ?_); (try simp only [Act.put, zzT, zzO, zzS]))
            | (apply WQ_val (by rfl); (focus (intro w' hC; (have e0 := From.cell hC f2; have e1 := From.cell hC f3; have e3 := From.cell hC f4; have e4 := From.cell hC f5; have e5 := From.cell hC fM); go_simp; (first | done | exact rfl | (rw [if_pos (by omega)]; done) | (exact str_idx (by omega))))); (try simp only [Act.put, zzT, zzO, zzS]))
            | (apply WQ_call (by rfl); (focus (intro w' hC; go_simp; (first | done | exact rfl | exact ⟨rfl, rfl⟩))); (focus (intro w' hC; first | (with_reducible exact From.of_new hC (HA.out _)) | (with_reducible exact From.of_same hC (Small_all _ _)) | (with_reducible exact From.of_same hC (HG.out _)) | (with_reducible exact From.of_new hC (HB.out _)) | (with_reducible exact From.of_new hC (HD.out _)))); (try simp only [Act.put, zzT, zzO, zzS]))
        refine WQ_nil ?_
        intro wq hq
        go_wp2
        go_ret
        exact ⟨ret_bool (by rw [HE2.out]; rfl), hU0.then (upd_from hq) (fun _ _ h => h)⟩
    · have h3 : (i.op == 3) = false := by simpa using g3
      have HE2 : Hid (E = true) := Lib.hid (by rw [← HE.out]; unfold takesF; rw [if_neg g1, if_neg g3])
      clear g1 g3
      go_wp2
      go_ret
      exact ⟨ret_bool HE2.out.symm, hU0⟩
end Go.Proofs.Ytigbfgmgdfnhcaa
