/- Lemmas that the law's proof stands on, part 28: Wrd, Look, Back. No condition. -/
import Derived.Test.YtigbfgmgdfnhcaaBaseA0
import Derived.Test.YtigbfgmgdfnhcaaBaseA2
import Derived.Test.YtigbfgmgdfnhcaaBaseA27
set_option linter.all false
set_option linter.unusedVariables false
set_option linter.unusedSimpArgs false
namespace Go.Proofs.Ytigbfgmgdfnhcaa
open Go.RowKit
theorem isB_word (c : Int) : isB 119 c = wordB c := by
  show (true && (wordB c != false)) = wordB c
  cases wordB c <;> rfl
theorem wordAt_in {l : List UInt8} {k : Nat} (h : k < l.length) : wordAt l (k : Int) = wordB (bl l k) := by
  unfold wordAt
  simp [h]
theorem wordAt_out {l : List UInt8} {p : Int} (h : p < 0 ∨ (l.length : Int) ≤ p) : wordAt l p = false := by
  unfold wordAt
  rcases h with h | h
  · simp [show ¬ 0 ≤ p by omega]
  · simp [show ¬ p < (l.length : Int) by omega]
set_option maxRecDepth 100000 in
set_option maxHeartbeats 8000000 in
theorem rword_any {w : World} (s : ByteArray) (p : Int) :
    Calls Try.prog 53 #[.string s, .int .i64 p] w fun e w' => e = .returned (.bool (wordAt s.data.toList p)) ∧ w = w' := by
  have HL : Hid (s.data.toList.length = s.size) := Lib.hid (by simp)
  by_cases h0 : 0 ≤ p
  · obtain ⟨k, rfl⟩ := Int.eq_ofNat_of_zero_le h0
    clear h0
    by_cases h1 : k < s.size
    · have HE := Lib.hid (wordAt_in (l := s.data.toList) (k := k) (by rw [HL.out]; exact h1))
      have hb := Lib.hid (bl_at h1)
      have hr := bl_rng s.data.toList k
      rw [← hb.out] at HE hr
      obtain ⟨c, hc⟩ : ∃ c : Int, (s[k].toNat : Int) = c := ⟨_, rfl⟩
      have HC := Lib.hid hc
      rw [hc] at HE hr
      obtain ⟨h2, h3⟩ := hr
      clear hc
      have HI := Lib.hid (fun w => rIs_any 119 c (by decide) (by decide) w)
      rw [isB_word] at HI
      obtain ⟨E, hE⟩ : ∃ E, wordAt s.data.toList (k : Int) = E := ⟨_, rfl⟩
      rw [hE] at HE ⊢
      clear hE
      go_enter Try.func53, Try.ntmps53
      go_wp2_with (first
        | (go_at_call 18; rw [HC.out]; refine (HI.out _).mono ?_; rintro e w' ⟨rfl, rfl⟩))
      go_ret
      exact ⟨ret_bool HE.out.symm, rfl⟩
    · have HE : Hid (wordAt s.data.toList (k : Int) = false) := Lib.hid (wordAt_out (.inr (by rw [HL.out]; omega)))
      rw [HE.out]
      go_enter Try.func53, Try.ntmps53
      go_wp2
      go_ret
      exact ⟨rfl, rfl⟩
  · have HE : Hid (wordAt s.data.toList p = false) := Lib.hid (wordAt_out (.inl (by omega)))
    rw [HE.out]
    go_enter Try.func53, Try.ntmps53
    go_wp2
    go_ret
    exact ⟨rfl, rfl⟩
set_option maxRecDepth 100000 in
set_option maxHeartbeats 8000000 in
theorem mword_any {w : World} (bM : Nat) (cv tv : Value) (r : Int) (fold : Bool) (s : ByteArray) (kM : w.heap[bM]? = some (.cells #[cv, .int .i64 r, .bool fold, .string s, tv] 58 (0, 0))) (p : Int) :
    Calls Try.prog 60 #[.pointer (some ⟨bM, 0, none⟩), .int .i64 p] w fun e w' => e = .returned (.bool (wordAt s.data.toList p)) ∧ w = w' := by
  have HL : Hid (s.data.toList.length = s.size) := Lib.hid (by simp)
  have cM := cells_of kM; (try simp only [progC, instC, zzT, zzO, zzS] at cM); have fM := frees_of kM
  by_cases h0 : 0 ≤ p
  · obtain ⟨k, rfl⟩ := Int.eq_ofNat_of_zero_le h0
    clear h0
    by_cases h1 : k < s.size
    · have HE := Lib.hid (wordAt_in (l := s.data.toList) (k := k) (by rw [HL.out]; exact h1))
      have hb := Lib.hid (bl_at h1)
      have hr := bl_rng s.data.toList k
      rw [← hb.out] at HE hr
      obtain ⟨c, hc⟩ : ∃ c : Int, (s[k].toNat : Int) = c := ⟨_, rfl⟩
      have HC := Lib.hid hc
      rw [hc] at HE hr
      obtain ⟨h2, h3⟩ := hr
      clear hc
      have HI := Lib.hid (fun w => Is_any 119 c (by decide) (by decide) w)
      rw [isB_word] at HI
      obtain ⟨E, hE⟩ : ∃ E, wordAt s.data.toList (k : Int) = E := ⟨_, rfl⟩
      rw [hE] at HE ⊢
      clear hE
      go_enter Try.func60, Try.ntmps60
      go_wp2_with (first
        | (go_at_call 73; rw [HC.out]; refine (HI.out _).mono ?_; rintro e w' ⟨rfl, rfl⟩))
      go_ret
      exact ⟨ret_bool HE.out.symm, rfl⟩
    · have HE : Hid (wordAt s.data.toList (k : Int) = false) := Lib.hid (wordAt_out (.inr (by rw [HL.out]; omega)))
      rw [HE.out]
      go_enter Try.func60, Try.ntmps60
      go_wp2
      go_ret
      exact ⟨rfl, rfl⟩
  · have HE : Hid (wordAt s.data.toList p = false) := Lib.hid (wordAt_out (.inl (by omega)))
    rw [HE.out]
    go_enter Try.func60, Try.ntmps60
    go_wp2
    go_ret
    exact ⟨rfl, rfl⟩
set_option maxRecDepth 100000 in
set_option maxHeartbeats 8000000 in
theorem rin_any {w : World} (p : ProgD) (cv : Value) (i : InstD) (c : Int) (h0 : 0 ≤ c) (h9 : c ≤ 255) (ho : i.op = 1 ∨ i.op = 2 ∨ i.op = 3) :
    Calls Try.prog 51 #[.agg (progC p cv), .agg (instC i).toArray, .int .u8 c] w fun e w' => e = .returned (.bool (takesF p.fold i c)) ∧ Upd (fun _ => False) w w' := by
  have hU0 := Upd.refl (fun _ => False) w
  have hz := Nat.le_refl w.heap.size
  unfold instC progC
  generalize p.fold = fold
  generalize p.rounds = r
  obtain ⟨E, hE⟩ : ∃ E, takesF fold i c = E := ⟨_, rfl⟩
  have HE := Lib.hid hE
  rw [hE]
  clear hE
  go_enter Try.func51, Try.ntmps51
  go_upto_region 2 with (first
    | ((with_reducible refine stopBx 31 _ rfl ?_); unfold Stop; refine wpList_box_blk rfl 31 _ rfl _ (by go_simp; first | done | exact rfl) #[cv, .int .i64 r, .bool fold] rfl ?_; intro bP wn hbn kn hUn hsn; have gP : w.heap.size ≤ bP := Nat.le_trans hU0.size (Nat.le_of_eq hbn); have kP := kn; replace hU0 := hU0.then hUn (fun _ _ h => h.elim); replace hz : w.heap.size ≤ wn.heap.size := (by omega); clear kn hUn hsn hbn; have cP := cells_of kP; (try simp only [progC, instC, zzT, zzO, zzS] at cP); have fP := frees_of kP)
    | ((with_reducible refine stopBx 63 _ rfl ?_); unfold Stop; refine wpList_box_blk rfl 63 _ rfl _ (by go_simp; first | done | exact rfl) #[.int .u8 i.op, .int .u8 i.c, .int .u64 i.set.a0, .int .u64 i.set.a1, .int .u64 i.set.a2, .int .u64 i.set.a3, .int .i64 i.x, .int .i64 i.y] rfl ?_; intro bI wn hbn kn hUn hsn; clear cP fP; have lPI := heap_lt kP; rw [hbn] at lPI; replace kP := hUn.heap kP (fun h => h); have gI : w.heap.size ≤ bI := Nat.le_trans hU0.size (Nat.le_of_eq hbn); have kI := kn; replace hU0 := hU0.then hUn (fun _ _ h => h.elim); replace hz : w.heap.size ≤ wn.heap.size := (by omega); clear kn hUn hsn hbn; have cI := cells_of kI; (try simp only [progC, instC, zzT, zzO, zzS] at cI); have fI := frees_of kI; have cP := cells_of kP; (try simp only [progC, instC, zzT, zzO, zzS] at cP); have fP := frees_of kP))
  have f2 := cI 2
  have f3 := cI 3
  have f4 := cI 4
  have f5 := cI 5
  have fM := cP 2
  rcases ho with g | g | g
  · have h1 : (i.op == 1) = true := by simpa using g
    have HE2 : Hid (E = sameB c i.c fold) := Lib.hid (by rw [← HE.out]; unfold takesF; rw [if_pos g])
    clear g
    go_wp2_with (first
      | (go_at_call 68; refine (rSame_all _ _ _ _).mono ?_; rintro e w' ⟨rfl, rfl⟩))
    go_ret
    exact ⟨ret_bool HE2.out.symm, hU0⟩
  · have h1 : (i.op == 1) = false := by simp [g]
    have h2 : (i.op == 2) = true := by simp [g]
    have HE2 : Hid (E = true) := Lib.hid (by rw [← HE.out]; unfold takesF; rw [if_neg (by omega), if_neg (by omega)])
    clear g
    go_wp2
    go_ret
    exact ⟨ret_bool HE2.out.symm, hU0⟩
  · have h1 : (i.op == 1) = false := by simp [g]
    have h2 : (i.op == 2) = false := by simp [g]
    have HE2 : Hid (E = (hasD i.set c || fold && (hasD i.set (smallI c) || hasD i.set (greatI c)))) := Lib.hid (by rw [← HE.out]; unfold takesF; rw [if_neg (by omega), if_pos g])
    clear g
    have HG := Lib.hid (fun w => rGreat_any c h0 h9 w)
    obtain ⟨A, hA⟩ : ∃ A, hasD i.set c = A := ⟨_, rfl⟩
    obtain ⟨B, hB⟩ : ∃ B, hasD i.set (smallI c) = B := ⟨_, rfl⟩
    obtain ⟨D, hD⟩ : ∃ D, hasD i.set (greatI c) = D := ⟨_, rfl⟩
    have HA := Lib.hid (fun w => rHas_set i.set c h0 h9 w)
    have HB := Lib.hid (fun w => rHas_set i.set (smallI c) (small_byte h0 h9).1 (small_byte h0 h9).2 w)
    have HD := Lib.hid (fun w => rHas_set i.set (greatI c) (great_byte h0 h9).1 (great_byte h0 h9).2 w)
    rw [hA, hB, hD] at HE2
    rw [hA] at HA
    rw [hB] at HB
    rw [hD] at HD
    clear hA hB hD
    go_wp2_with (first
      | (go_at_call 69; refine (HA.out _).mono ?_; rintro e w' ⟨rfl, hu⟩; replace f2 := hu.cell f2 (fun h => h); replace f3 := hu.cell f3 (fun h => h); replace f4 := hu.cell f4 (fun h => h); replace f5 := hu.cell f5 (fun h => h); replace fM := hu.cell fM (fun h => h); replace hU0 := hU0.then hu (fun _ _ h => h); clear hu cI cP fI fP kI kP hz; cases A))
    · cases fold
      · skip
        first | (refine wq_region_from_still ?_) | (refine wq_region_from (by kernel_rfl) (by kernel_rfl) ?_)
        repeat
          first
            | ((refine WQ_skip (by rfl) ?_); (try simp only [Act.put, zzT, zzO, zzS]))
            | (apply WQ_val (by rfl); (focus (intro w' hC; (have e0 := From.cell hC f2; have e1 := From.cell hC f3; have e3 := From.cell hC f4; have e4 := From.cell hC f5; have e5 := From.cell hC fM); go_simp; (first | done | exact rfl | (rw [if_pos (by omega)]; done) | (exact str_idx (by omega))))); (try simp only [Act.put, zzT, zzO, zzS]))
            | (apply WQ_call (by rfl); (focus (intro w' hC; go_simp; (first | done | exact rfl | exact ⟨rfl, rfl⟩))); (focus (intro w' hC; first | (with_reducible exact From.of_same hC (rSmall_all _ _)) | (with_reducible exact From.of_same hC (HG.out _)) | (with_reducible exact From.of_new hC (HB.out _)) | (with_reducible exact From.of_new hC (HD.out _)))); (try simp only [Act.put, zzT, zzO, zzS]))
        refine WQ_nil ?_
        intro wq hq
        go_wp2
        go_ret
        exact ⟨ret_bool (by rw [HE2.out]; rfl), hU0.then (upd_from hq) (fun _ _ h => h)⟩
      · cases B
        · skip
          first | (refine wq_region_from_still ?_) | (refine wq_region_from (by kernel_rfl) (by kernel_rfl) ?_)
          repeat
            first
              | ((refine WQ_skip (by rfl) ?_); (try simp only [Act.put, zzT, zzO, zzS]))
              | (apply WQ_val (by rfl); (focus (intro w' hC; (have e0 := From.cell hC f2; have e1 := From.cell hC f3; have e3 := From.cell hC f4; have e4 := From.cell hC f5; have e5 := From.cell hC fM); go_simp; (first | done | exact rfl | (rw [if_pos (by omega)]; done) | (exact str_idx (by omega))))); (try simp only [Act.put, zzT, zzO, zzS]))
              | (apply WQ_call (by rfl); (focus (intro w' hC; go_simp; (first | done | exact rfl | exact ⟨rfl, rfl⟩))); (focus (intro w' hC; first | (with_reducible exact From.of_same hC (rSmall_all _ _)) | (with_reducible exact From.of_same hC (HG.out _)) | (with_reducible exact From.of_new hC (HB.out _)) | (with_reducible exact From.of_new hC (HD.out _)))); (try simp only [Act.put, zzT, zzO, zzS]))
          refine WQ_nil ?_
          intro wq hq
          go_wp2
          go_ret
          exact ⟨ret_bool (by rw [HE2.out]; rfl), hU0.then (upd_from hq) (fun _ _ h => h)⟩
        · skip
          first | (refine wq_region_from_still ?_) | (refine wq_region_from (by kernel_rfl) (by kernel_rfl) ?_)
          repeat
            first
              | ((refine WQ_skip (by rfl) ?_); (try simp only [Act.put, zzT, zzO, zzS]))
              | (apply WQ_val (by rfl); (focus (intro w' hC; (have e0 := From.cell hC f2; have e1 := From.cell hC f3; have e3 := From.cell hC f4; have e4 := From.cell hC f5; have e5 := From.cell hC fM); go_simp; (first | done | exact rfl | (rw [if_pos (by omega)]; done) | (exact str_idx (by omega))))); (try simp only [Act.put, zzT, zzO, zzS]))
              | (apply WQ_call (by rfl); (focus (intro w' hC; go_simp; (first | done | exact rfl | exact ⟨rfl, rfl⟩))); (focus (intro w' hC; first | (with_reducible exact From.of_same hC (rSmall_all _ _)) | (with_reducible exact From.of_same hC (HG.out _)) | (with_reducible exact From.of_new hC (HB.out _)) | (with_reducible exact From.of_new hC (HD.out _)))); (try simp only [Act.put, zzT, zzO, zzS]))
          refine WQ_nil ?_
          intro wq hq
          go_wp2
          go_ret
          exact ⟨ret_bool (by rw [HE2.out]; rfl), hU0.then (upd_from hq) (fun _ _ h => h)⟩
    · go_wp2
      go_ret
      exact ⟨ret_bool (by rw [HE2.out]; rfl), hU0⟩
end Go.Proofs.Ytigbfgmgdfnhcaa
namespace Go.Proofs.Ytigbfgmgdfnhcaa
open Go.RowKit
def tryL (t : TryD) (rv : Value) : List Value := .int .i64 t.pc :: .int .i64 t.pos :: (t.slots.map (Value.int .i64) ++ [rv])
def tryC (t : TryD) (rv : Value) : Array Value := (tryL t rv).toArray
theorem try_pc (t : TryD) (rv : Value) : (tryC t rv)[0]? = some (.int .i64 t.pc) := by simp [tryC, tryL]
theorem try_pos (t : TryD) (rv : Value) : (tryC t rv)[1]? = some (.int .i64 t.pos) := by simp [tryC, tryL]
theorem try_slot (t : TryD) (rv : Value) (k : Nat) (h : k < t.slots.length) : (tryC t rv)[2 + k]? = some (.int .i64 (t.slots.getD k 0)) := by
  simp only [tryC, tryL, List.getElem?_toArray, show 2 + k = k + 2 by omega, List.getElem?_cons_succ]
  rw [List.getElem?_append_left (by simpa using h), List.getElem?_map, List.getElem?_eq_getElem h, List.getD_eq_getElem?_getD, List.getElem?_eq_getElem h]
  rfl
theorem try_rounds (t : TryD) (rv : Value) (h : t.slots.length = 22) : (tryC t rv)[24]? = some rv := by
  simp only [tryC, tryL, List.getElem?_toArray, List.getElem?_cons_succ]
  rw [List.getElem?_append_right (by simp [h])]
  simp [h]
theorem try_size (t : TryD) (rv : Value) (h : t.slots.length = 22) : (tryC t rv).size = 25 := by simp [tryC, tryL, h]
theorem try_set_pc (t : TryD) (rv : Value) (k : Nat) : (tryC t rv).setIfInBounds 0 (.int .i64 k) = tryC { t with pc := k } rv := by simp [tryC, tryL]
theorem try_set_pos (t : TryD) (rv : Value) (k : Nat) : (tryC t rv).setIfInBounds 1 (.int .i64 k) = tryC { t with pos := k } rv := by simp [tryC, tryL]
theorem try_set_slot (t : TryD) (rv : Value) (k : Nat) (x : Int) (h : k < t.slots.length) : (tryC t rv).setIfInBounds (2 + k) (.int .i64 x) = tryC { t with slots := t.slots.set k x } rv := by
  simp only [tryC, tryL, show 2 + k = k + 2 by omega, zzT, zzS]
  rw [List.set_append_left _ _ (by simpa using h), List.map_set]
theorem try_set_rounds (t : TryD) (rv rv2 : Value) (h : t.slots.length = 22) : (tryC t rv).setIfInBounds 24 rv2 = tryC t rv2 := by
  simp only [tryC, tryL, zzT, zzS]
  rw [List.set_append_right _ _ (by simp [h])]
  simp [h]
set_option maxRecDepth 100000 in
set_option maxHeartbeats 8000000 in
theorem looks_any {w : World} (bM bT : Nat) (cv tv : Value) (r : Int) (fold : Bool) (s : ByteArray) (kM : w.heap[bM]? = some (.cells #[cv, .int .i64 r, .bool fold, .string s, tv] 58 (0, 0))) (pos : Nat) (hp : pos ≤ 140737488351232) (cT1 : w.cell? ⟨bT, 1, none⟩ = some (.int .i64 (pos : Int))) (op : Int) :
    Calls Try.prog 42 #[.pointer (some ⟨bM, 0, none⟩), .pointer (some ⟨bT, 0, none⟩), .int .u8 op] w fun e w' => e = .returned (.bool (looksF s.data.toList pos op)) ∧ Upd (fun _ => False) w w' := by
  have HL : Hid (s.data.toList.length = s.size) := Lib.hid (by simp)
  have HM := Lib.hid kM
  have HW1 : Hid (∀ w', From w w' → Calls Try.prog 60 #[.pointer (some ⟨bM, 0, none⟩), .int .i64 ((pos : Int) - 1)] w' fun e w'' => e = .returned (.bool (wordAt s.data.toList ((pos : Int) - 1))) ∧ w' = w'') := Lib.hid (fun w' hC => mword_any bM cv tv r fold s ((upd_from hC).heap kM (fun h => h)) _)
  have HW2 : Hid (∀ w', From w w' → Calls Try.prog 60 #[.pointer (some ⟨bM, 0, none⟩), .int .i64 (pos : Int)] w' fun e w'' => e = .returned (.bool (wordAt s.data.toList (pos : Int))) ∧ w' = w'') := Lib.hid (fun w' hC => mword_any bM cv tv r fold s ((upd_from hC).heap kM (fun h => h)) _)
  obtain ⟨E, hE⟩ : ∃ E, looksF s.data.toList pos op = E := ⟨_, rfl⟩
  have HE := Lib.hid hE
  rw [hE]
  unfold looksF at HE
  rw [HL.out] at HE
  clear hE
  obtain ⟨A, hA⟩ : ∃ A, wordAt s.data.toList ((pos : Int) - 1) = A := ⟨_, rfl⟩
  obtain ⟨B, hB⟩ : ∃ B, wordAt s.data.toList (pos : Int) = B := ⟨_, rfl⟩
  rw [hA] at HW1 HE
  rw [hB] at HW2 HE
  clear hA hB
  have cM := cells_of kM; (try simp only [instC, zzT, zzO, zzS] at cM); have fM := frees_of kM
  have c3 := cM 3
  have hsub : IntKind.i64.wrap ((pos : Int) - 1) = (pos : Int) - 1 := by unfold IntKind.wrap; simp [IntKind.signed, IntKind.bits]; omega
  go_enter Try.func42, Try.ntmps42
  go_wp2
  first | (refine wq_region_from_still ?_) | (refine wq_region_from (by kernel_rfl) (by kernel_rfl) ?_)
  repeat
    first
      | ((refine WQ_skip (by rfl) ?_); (try simp only [Act.put, zzT, zzO, zzS]))
      | (apply WQ_val (by rfl); (focus (intro w' hC; (have e0 := From.cell hC cT1); go_simp; (first | done | exact rfl | (rw [if_pos (by omega)]; done) | (exact str_idx (by omega))))); (try simp only [Act.put, zzT, zzO, zzS]))
      | (apply WQ_call (by rfl); (focus (intro w' hC; go_simp; (first | done | exact rfl | exact ⟨rfl, rfl⟩))); (focus (intro w' hC; first | (with_reducible exact From.of_same hC (HW1.out _ hC)) | (with_reducible exact From.of_same hC (HW2.out _ hC)))); (try simp only [Act.put, zzT, zzO, zzS]))
  refine WQ_nil ?_
  intro wq hq
  have e1 := From.cell hq cT1
  have e3 := From.cell hq c3
  have hq0 := hq
  clear hq
  clear cM fM kM c3
  by_cases g8 : op = 8
  · have h1 : (op == 8) = true := by simpa using g8
    have HE2 : Hid (E = (pos == 0)) := Lib.hid (by rw [← HE.out, if_pos g8])
    clear g8 HE
    go_wp2
    go_ret
    exact ⟨ret_bool (by rw [HE2.out, Bool.eq_iff_iff]; simp), upd_from hq0⟩
  · have h1 : (op == 8) = false := by simpa using g8
    by_cases g9 : op = 9
    · have h2 : (op == 9) = true := by simpa using g9
      have HE2 : Hid (E = (pos == s.size)) := Lib.hid (by rw [← HE.out, if_neg g8, if_pos g9])
      clear g8 g9 HE
      go_wp2
      first | (refine wq_region_from_still ?_) | (refine wq_region_from (by kernel_rfl) (by kernel_rfl) ?_)
      repeat
        first
          | ((refine WQ_skip (by rfl) ?_); (try simp only [Act.put, zzT, zzO, zzS]))
          | (apply WQ_val (by rfl); (focus (intro w' hC; (have e2 := From.cell hC e1; have e4 := From.cell hC e3); go_simp; (first | done | exact rfl | (rw [if_pos (by omega)]; done) | (exact str_idx (by omega))))); (try simp only [Act.put, zzT, zzO, zzS]))
          | (apply WQ_call (by rfl); (focus (intro w' hC; go_simp; (first | done | exact rfl | exact ⟨rfl, rfl⟩))); (focus (intro w' hC; first | fail)); (try simp only [Act.put, zzT, zzO, zzS]))
      refine WQ_nil ?_
      intro wq hq
      go_wp2
      go_ret
      exact ⟨ret_bool (by rw [HE2.out, Bool.eq_iff_iff]; simp; try omega), upd_from (From.call hq0 hq)⟩
    · have h2 : (op == 9) = false := by simpa using g9
      by_cases g10 : op = 10
      · have h3 : (op == 10) = true := by simpa using g10
        have HE2 : Hid (E = (B && !A)) := Lib.hid (by rw [← HE.out, if_neg g8, if_neg g9, if_pos g10])
        clear g8 g9 g10 HE
        cases B
        · go_wp2
          go_ret
          exact ⟨ret_bool (by rw [HE2.out]; rfl), upd_from hq0⟩
        · go_wp2
          go_ret
          exact ⟨ret_bool (by rw [HE2.out]; rfl), upd_from hq0⟩
      · have h3 : (op == 10) = false := by simpa using g10
        have HE2 : Hid (E = (A && !B)) := Lib.hid (by rw [← HE.out, if_neg g8, if_neg g9, if_neg g10])
        clear g8 g9 g10 HE
        cases A
        · go_wp2
          go_ret
          exact ⟨ret_bool (by rw [HE2.out]; rfl), upd_from hq0⟩
        · go_wp2
          go_ret
          exact ⟨ret_bool (by rw [HE2.out]; rfl), upd_from hq0⟩
end Go.Proofs.Ytigbfgmgdfnhcaa
namespace Go.Proofs.Ytigbfgmgdfnhcaa
open Go.RowKit
theorem str_idx {s : ByteArray} {z : Int} {w : World} {X : Result Value} (hz : 0 ≤ z ∧ z < (s.size : Int)) :
    ((if hi : 0 ≤ z ∧ z < (s.size : Int) then Result.ok (Value.int IntKind.u8 ((s[z.toNat]'(by omega)).toNat : Int)) w else X).andThen fun a w' => Result.ok (Next.value a) w') = Result.ok (Next.value (.int .u8 (bl s.data.toList z.toNat))) w := by
  rw [dif_pos hz]
  have h := bl_at (s := s) (k := z.toNat) (by omega)
  simp only [Result.andThen]
  rw [h]
structure TryOK (n : Nat) (t : TryD) : Prop where
  sl : t.slots.length = 22
  pos : t.pos ≤ n
  slot : ∀ k, -1 ≤ t.slots.getD k 0 ∧ t.slots.getD k 0 ≤ n
def BackPost (w : World) (bT : Nat) (T : TypeId) (t : TryD) (rv : Value) (q : Option Nat) (e : Ending) (w' : World) : Prop :=
  match q with
  | none => e = .returned (.bool false) ∧ Upd (fun _ => False) w w'
  | some p => e = .returned (.bool true) ∧ w'.heap[bT]? = some (.cells (tryC { t with pos := p } rv) T (0, 0)) ∧ Upd (fun k => k = bT) w w'
set_option maxRecDepth 100000 in
set_option maxHeartbeats 8000000 in
theorem back_any {w : World} (bM bT : Nat) (cv tv rv : Value) (r : Int) (fold : Bool) (s : ByteArray) (t : TryD) (x : Nat) (hx : x < 10) (ht : TryOK s.size t) (hs0 : s.size ≤ 140737488351232)
    (kM : w.heap[bM]? = some (.cells #[cv, .int .i64 r, .bool fold, .string s, tv] 58 (0, 0))) (kT : w.heap[bT]? = some (.cells (tryC t rv) 54 (0, 0))) :
    Calls Try.prog 41 #[.pointer (some ⟨bM, 0, none⟩), .pointer (some ⟨bT, 0, none⟩), .int .i64 (x : Int)] w (BackPost w bT 54 t rv (backF fold s.data.toList t x)) := by
  have HL : Hid (s.data.toList.length = s.size) := Lib.hid (by simp)
  have HT := Lib.hid ht
  have hp := ht.pos
  have cA := cell_of kT (2 + 2 * x) (try_slot t rv (2 * x) (by have := ht.sl; omega))
  have cB := cell_of kT (2 + (2 * x + 1)) (try_slot t rv (2 * x + 1) (by have := ht.sl; omega))
  have cP := cell_of kT 1 (try_pos t rv)
  have fT := frees_of kT
  have cM := cells_of kM; (try simp only [instC, zzT, zzO, zzS] at cM); have fM := frees_of kM
  have c2 := cM 2
  have c3 := cM 3
  obtain ⟨E, hE⟩ : ∃ E, backF fold s.data.toList t x = E := ⟨_, rfl⟩
  have HE := Lib.hid hE
  rw [hE]
  unfold backF at HE
  rw [HL.out] at HE
  clear hE ht
  have ha := HT.out.slot (2 * x)
  have hb := HT.out.slot (2 * x + 1)
  obtain ⟨a, hA⟩ : ∃ a, t.slots.getD (2 * x) 0 = a := ⟨_, rfl⟩
  obtain ⟨b, hB⟩ : ∃ b, t.slots.getD (2 * x + 1) 0 = b := ⟨_, rfl⟩
  obtain ⟨pos, hP⟩ : ∃ pos, t.pos = pos := ⟨_, rfl⟩
  have HPP := Lib.hid hP
  rw [hA] at cA ha HE
  rw [hB] at cB hb HE
  rw [hP] at cP hp HE
  clear hA hB hP
  obtain ⟨ha0, ha1⟩ := ha
  obtain ⟨hb0, hb1⟩ := hb
  have hsub : IntKind.i64.wrap (2 * (x : Int)) = 2 * (x : Int) := by unfold IntKind.wrap; simp [IntKind.signed, IntKind.bits]; omega
  have hsub2 : IntKind.i64.wrap (2 * (x : Int) + 1) = 2 * (x : Int) + 1 := by unfold IntKind.wrap; simp [IntKind.signed, IntKind.bits]; omega
  have ea : (2 * (x : Int)).toNat = 2 * x := by omega
  have eb : (2 * (x : Int) + 1).toNat = 2 * x + 1 := by omega
  rw [← ea] at cA
  rw [← eb] at cB
  have HK := Lib.hid kT
  clear kM kT ea eb
  go_enter Try.func41, Try.ntmps41
  go_wp2
  first | (refine wq_region_from_still ?_) | (refine wq_region_from (by kernel_rfl) (by kernel_rfl) ?_)
  repeat
    first
      | ((refine WQ_skip (by rfl) ?_); (try simp only [Act.put, zzT, zzO, zzS]))
      | (apply WQ_val (by rfl); (focus (intro w' hC; (have e0 := From.cell hC cA; have e1 := From.cell hC cB); go_simp; (first | done | exact rfl | (rw [if_pos (by omega)]; done) | (exact str_idx (by omega))))); (try simp only [Act.put, zzT, zzO, zzS]))
      | (apply WQ_call (by rfl); (focus (intro w' hC; go_simp; (first | done | exact rfl | exact ⟨rfl, rfl⟩))); (focus (intro w' hC; first | fail)); (try simp only [Act.put, zzT, zzO, zzS]))
  refine WQ_nil ?_
  intro wq hq
  have eP := From.cell hq cP
  have e2 := From.cell hq c2
  have e3 := From.cell hq c3
  have hq0 := hq
  clear hq cA cB cM fM
  have hs1 : IntKind.i64.wrap (b - a) = b - a := by unfold IntKind.wrap; simp [IntKind.signed, IntKind.bits]; omega
  have hs2 : IntKind.i64.wrap ((s.size : Int) - (pos : Int)) = (s.size : Int) - (pos : Int) := by unfold IntKind.wrap; simp [IntKind.signed, IntKind.bits]; omega
  by_cases g1 : a < 0
  · have h1 : (a == -1) = true := beq_iff_eq.mpr (by omega)
    have HE2 : Hid (E = none) := Lib.hid (by rw [← HE.out, if_pos (.inl g1)])
    clear g1 HE
    have e := HE2.out
    subst e
    go_wp2
    first | (refine wq_region_from_still ?_) | (refine wq_region_from (by kernel_rfl) (by kernel_rfl) ?_)
    repeat
      first
        | ((refine WQ_skip (by rfl) ?_); (try simp only [Act.put, zzT, zzO, zzS]))
        | (apply WQ_val (by rfl); (focus (intro w' hC; (have e0 := From.cell hC eP; have e1 := From.cell hC e3); go_simp; (first | done | exact rfl | (rw [if_pos (by omega)]; done) | (exact str_idx (by omega))))); (try simp only [Act.put, zzT, zzO, zzS]))
        | (apply WQ_call (by rfl); (focus (intro w' hC; go_simp; (first | done | exact rfl | exact ⟨rfl, rfl⟩))); (focus (intro w' hC; first | fail)); (try simp only [Act.put, zzT, zzO, zzS]))
    refine WQ_nil ?_
    intro wq hq
    go_wp2
    go_ret
    exact ⟨rfl, upd_from (From.call hq0 hq)⟩
  · have h1 : (a == -1) = false := beq_eq_false_iff_ne.mpr (by omega)
    by_cases g2 : b < a
    · have HE2 : Hid (E = none) := Lib.hid (by rw [← HE.out, if_pos (.inr g2)])
      clear HE
      have e := HE2.out
      subst e
      have h2 : decide (b < a) = true := decide_eq_true g2
      go_wp2
      first | (refine wq_region_from_still ?_) | (refine wq_region_from (by kernel_rfl) (by kernel_rfl) ?_)
      repeat
        first
          | ((refine WQ_skip (by rfl) ?_); (try simp only [Act.put, zzT, zzO, zzS]))
          | (apply WQ_val (by rfl); (focus (intro w' hC; (have e0 := From.cell hC eP; have e1 := From.cell hC e3); go_simp; (first | done | exact rfl | (rw [if_pos (by omega)]; done) | (exact str_idx (by omega))))); (try simp only [Act.put, zzT, zzO, zzS]))
          | (apply WQ_call (by rfl); (focus (intro w' hC; go_simp; (first | done | exact rfl | exact ⟨rfl, rfl⟩))); (focus (intro w' hC; first | fail)); (try simp only [Act.put, zzT, zzO, zzS]))
      refine WQ_nil ?_
      intro wq hq
      go_wp2
      go_ret
      exact ⟨rfl, upd_from (From.call hq0 hq)⟩
    · by_cases g3 : (s.size : Int) - pos < b - a
      · have HE2 : Hid (E = none) := Lib.hid (by rw [← HE.out, if_neg (show ¬ (a < 0 ∨ b < a) by omega), if_pos g3])
        clear HE
        have e := HE2.out
        subst e
        have h2 : decide (b < a) = false := decide_eq_false g2
        go_wp2
        first | (refine wq_region_from_still ?_) | (refine wq_region_from (by kernel_rfl) (by kernel_rfl) ?_)
        repeat
          first
            | ((refine WQ_skip (by rfl) ?_); (try simp only [Act.put, zzT, zzO, zzS]))
            | (apply WQ_val (by rfl); (focus (intro w' hC; (have e0 := From.cell hC eP; have e1 := From.cell hC e3); go_simp; (first | done | exact rfl | (rw [if_pos (by omega)]; done) | (exact str_idx (by omega))))); (try simp only [Act.put, zzT, zzO, zzS]))
            | (apply WQ_call (by rfl); (focus (intro w' hC; go_simp; (first | done | exact rfl | exact ⟨rfl, rfl⟩))); (focus (intro w' hC; first | fail)); (try simp only [Act.put, zzT, zzO, zzS]))
        refine WQ_nil ?_
        intro wq hq
        go_wp2
        go_ret
        exact ⟨rfl, upd_from (From.call hq0 hq)⟩
      · have HE2 : Hid ((if sameRun fold s.data.toList pos a.toNat (b - a).toNat = true then some (pos + (b - a).toNat) else none) = E) := Lib.hid (by rw [← HE.out, if_neg (show ¬ (a < 0 ∨ b < a) by omega), if_neg g3])
        clear HE
        obtain ⟨m, rfl⟩ := Int.eq_ofNat_of_zero_le (by omega : 0 ≤ a)
        obtain ⟨n, hn⟩ := Int.eq_ofNat_of_zero_le (by omega : 0 ≤ b - m)
        obtain rfl : b = m + n := by omega
        rw [show ((m : Int) + n - m).toNat = n by omega, Int.toNat_natCast] at HE2
        clear hn
        have h2 : decide ((m : Int) + n < m) = false := decide_eq_false g2
        go_wp2
        first | (refine wq_region_from_still ?_) | (refine wq_region_from (by kernel_rfl) (by kernel_rfl) ?_)
        repeat
          first
            | ((refine WQ_skip (by rfl) ?_); (try simp only [Act.put, zzT, zzO, zzS]))
            | (apply WQ_val (by rfl); (focus (intro w' hC; (have e0 := From.cell hC eP; have e1 := From.cell hC e3); go_simp; (first | done | exact rfl | (rw [if_pos (by omega)]; done) | (exact str_idx (by omega))))); (try simp only [Act.put, zzT, zzO, zzS]))
            | (apply WQ_call (by rfl); (focus (intro w' hC; go_simp; (first | done | exact rfl | exact ⟨rfl, rfl⟩))); (focus (intro w' hC; first | fail)); (try simp only [Act.put, zzT, zzO, zzS]))
        refine WQ_nil ?_
        intro wq hq
        go_wp2
        have hq1 := Lib.hid (From.call hq0 hq)
        clear hq0 hq eP e2 e3
        go_loopg [51] n (fun gk iv wr => ∃ k : Nat, iv = .int .i64 (k : Int) ∧ k + gk = n ∧ Hid (sameRun fold s.data.toList pos m n = sameRun fold s.data.toList (pos + k) (m + k) gk) ∧ Hid (From w wr))
        case atStart => exact ⟨0, rfl, by omega, Lib.hid rfl, hq1⟩
        case round =>
          clear hq1
          obtain ⟨k, rfl, hk, hR, hq1⟩ := hrel
          have eP := From.cell hq1.out cP
          have e2 := From.cell hq1.out c2
          have e3 := From.cell hq1.out c3
          by_cases hlt : k < n
          · have hs3 : IntKind.i64.wrap ((pos : Int) + (k : Int)) = (pos : Int) + (k : Int) := by unfold IntKind.wrap; simp [IntKind.signed, IntKind.bits]; omega
            have hs4 : IntKind.i64.wrap ((m : Int) + (k : Int)) = (m : Int) + (k : Int) := by unfold IntKind.wrap; simp [IntKind.signed, IntKind.bits]; omega
            go_wp2
            have HS := Lib.hid (fun w => Same_all (bl s.data.toList ((pos : Int) + (k : Int)).toNat) (bl s.data.toList ((m : Int) + (k : Int)).toNat) fold w)
            obtain ⟨g, rfl⟩ : ∃ g, gk = g + 1 := ⟨gk - 1, by omega⟩
            have hR2 := hR.out
            rw [show sameRun fold s.data.toList (pos + k) (m + k) (g + 1) = (sameB (bl s.data.toList (pos + k)) (bl s.data.toList (m + k)) fold && sameRun fold s.data.toList (pos + k + 1) (m + k + 1) g) from rfl] at hR2
            rw [show ((pos : Int) + (k : Int)).toNat = pos + k by omega, show ((m : Int) + (k : Int)).toNat = m + k by omega] at HS
            obtain ⟨B, hB⟩ : ∃ B, sameB (bl s.data.toList (pos + k)) (bl s.data.toList (m + k)) fold = B := ⟨_, rfl⟩
            rw [hB] at HS hR2
            rw [show pos + k = ((pos : Int) + (k : Int)).toNat by omega, show m + k = ((m : Int) + (k : Int)).toNat by omega] at HS
            have HR2 := Lib.hid hR2
            clear hB hR hR2
            first | (refine wq_region_from_still ?_) | (refine wq_region_from (by kernel_rfl) (by kernel_rfl) ?_)
            repeat
              first
                | ((refine WQ_skip (by rfl) ?_); (try simp only [Act.put, zzT, zzO, zzS]))
                | (apply WQ_val (by rfl); (focus (intro w' hC; (have e0 := From.cell hC eP; have e1 := From.cell hC e3; have e4 := From.cell hC e2); go_simp; (first | done | exact rfl | (rw [if_pos (by omega)]; done) | (exact str_idx (by omega))))); (try simp only [Act.put, zzT, zzO, zzS]))
                | (apply WQ_call (by rfl); (focus (intro w' hC; go_simp; (first | done | exact rfl | exact ⟨rfl, rfl⟩))); (focus (intro w' hC; first | (with_reducible exact From.of_same hC (HS.out _)))); (try simp only [Act.put, zzT, zzO, zzS]))
            refine WQ_nil ?_
            intro wq hq
            have hq2 := Lib.hid (From.call hq1.out hq)
            clear hq eP e2 e3
            cases B
            · have HE3 : Hid (none = E) := Lib.hid (by rw [← HE2.out, HR2.out, if_neg (by simp)])
              clear HE2
              have e := HE3.out
              subst e
              go_wp2
              go_ret
              exact ⟨rfl, upd_from hq2.out⟩
            · have HR3 : Hid (sameRun fold s.data.toList pos m n = sameRun fold s.data.toList (pos + (k + 1)) (m + (k + 1)) g) := Lib.hid (by rw [HR2.out, Bool.true_and]; rfl)
              go_wp2
              go_roundg g
              case measure => omega
              case rel => exact ⟨k + 1, by go_num, by omega, HR3, hq2⟩
          · obtain rfl : k = n := by omega
            obtain rfl : gk = 0 := by omega
            have HE3 : Hid (some (pos + k) = E) := Lib.hid (by rw [← HE2.out, hR.out]; exact (if_pos rfl).symm)
            have e := HE3.out
            subst e
            clear HE2 HE3 hR
            have hs5 : IntKind.i64.wrap ((pos : Int) + (k : Int)) = (pos : Int) + (k : Int) := by unfold IntKind.wrap; simp [IntKind.signed, IntKind.bits]; omega
            have kT := (upd_from hq1.out).heap HK.out (fun h => h)
            have HU := Lib.hid (upd_from hq1.out)
            have HSZ := Lib.hid (try_size t rv HT.out.sl)
            clear hq1
            go_wp2_with (first | ((with_reducible refine stopSt 3 _ _ rfl ?_); unfold Stop; refine wpList_store_blk rfl 3 _ _ rfl bT 1 rfl (.int .i64 ((pos + k : Nat) : Int)) (by go_simp; first | done | exact rfl | (congr 1; omega) | omega) (tryC t rv) (tryC { t with pos := pos + k } rv) _ kT (by rw [HSZ.out]; exact (by decide : 1 + 1 ≤ 25)) (by kernel_rfl) rfl (try_set_pos t rv (pos + k)) ?_; intro w9 k9 hu9 hs9))
            skip
            go_ret
            exact ⟨rfl, k9, (HU.out.mono (fun _ _ h => h.elim)).then hu9 (fun _ _ h => h)⟩
end Go.Proofs.Ytigbfgmgdfnhcaa
