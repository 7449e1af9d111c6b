/- The walks of the laws KindSets, KindOther, KindCount, KindNamed. -/
import Derived.Test.YtemnppfdoicmpaaKindLawB
import Derived.Test.YtemnppfdoicmpaaRefC
namespace Go.Proofs.Ytemnppfdoicmpaa
open Go.RowKit
attribute [local go_sem] eqlS

theorem setV_eq (a0 a1 a2 a3 : Int) (b : Bool) : setV a0 a1 a2 a3 b = .tuple #[.agg #[.int .u64 a0, .int .u64 a1, .int .u64 a2, .int .u64 a3], .bool b] := rfl
theorem ofV_eq (p : Int → Bool) (b : Bool) : ofV p b = .tuple #[.agg #[.int .u64 (accJ p 0 256), .int .u64 (accJ p 1 256), .int .u64 (accJ p 2 256), .int .u64 (accJ p 3 256)], .bool b] := rfl

set_option maxRecDepth 100000 in
theorem kindSets_law (k : Int) (h0 : 0 ≤ k) (h1 : k ≤ 255) (s : ByteArray) (_hs : s.size ≤ maxLen) (w : World) :
    Calls Try.prog 11 #[.int .u8 k, .string s] w fun e w' => e = .returned (.bool true) ∧ Below w.heap.size w w' := by
  by_cases hl : (s.size : Int) ≤ 100
  · go_enter Try.func11, Try.ntmps11
    go_wp2_with fail
    refine (kknown_any _).mono ?_
    rintro e w' ⟨rfl, rfl⟩
    go_wp2_with fail
    refine (Of_any k h0 h1 _).mono ?_
    rintro e w1 ⟨rfl, hq⟩
    have hB : From w w1 := hq
    clear hq
    rw [ofV_eq]
    go_wp2_with fail
    generalize hW : World.alloc w1 _ = W1
    have hN : From w1 W1 := hW ▸ From.new
    have fa : Four W1 w1.heap.size _ _ _ _ := hW ▸ Four.new
    clear hW
    replace hB := From.trans hB hN
    clear hN
    refine (rOf_any k h0 h1 _).mono ?_
    rintro e w2 ⟨rfl, hq⟩
    replace fa := Four.from fa hq
    replace hB := From.trans hB hq
    clear hq
    rw [ofV_eq]
    go_wp2_with fail
    generalize hW : World.alloc w2 _ = W2
    have hN : From w2 W2 := hW ▸ From.new
    have fb : Four W2 w2.heap.size _ _ _ _ := hW ▸ Four.new
    clear hW
    replace fa := Four.from fa hN
    replace hB := From.trans hB hN
    clear hN
    refine (Named_any s _).mono ?_
    rintro e w3 ⟨rfl, hq⟩
    replace fa := Four.from fa hq
    replace fb := Four.from fb hq
    replace hB := From.trans hB hq
    clear hq
    rw [ofV_eq]
    go_wp2_with fail
    generalize hW : World.alloc w3 _ = W3
    have hN : From w3 W3 := hW ▸ From.new
    have fc : Four W3 w3.heap.size _ _ _ _ := hW ▸ Four.new
    clear hW
    replace fa := Four.from fa hN
    replace fb := Four.from fb hN
    replace hB := From.trans hB hN
    clear hN
    refine (rNamed_any s _).mono ?_
    rintro e w4 ⟨rfl, hq⟩
    replace fa := Four.from fa hq
    replace fb := Four.from fb hq
    replace fc := Four.from fc hq
    replace hB := From.trans hB hq
    clear hq
    rw [ofV_eq]
    have hN : From w4 (w4.alloc (.cells #[.int .u64 (accJ (nameP s.toList) 0 256), .int .u64 (accJ (nameP s.toList) 1 256), .int .u64 (accJ (nameP s.toList) 2 256), .int .u64 (accJ (nameP s.toList) 3 256)] 29)) := From.new
    replace fa := Four.from fa hN
    replace fb := Four.from fb hN
    replace fc := Four.from fc hN
    replace hB := From.trans hB hN
    clear hN
    have zfa := fa
    obtain ⟨fax0, fax1, fax2, fax3, _, _, _, _⟩ := zfa
    have zfb := fb
    obtain ⟨fbx0, fbx1, fbx2, fbx3, _, _, _, _⟩ := zfb
    have zfc := fc
    obtain ⟨fcx0, fcx1, fcx2, fcx3, _, _, _, _⟩ := zfc
    go_wp2
    go_ret
    exact ⟨rfl, hB⟩
  · have hl' : (100 : Int) < (s.size : Int) := by omega
    clear hl
    go_enter Try.func11, Try.ntmps11
    go_wp2_with (go_at_call 14; refine (kknown_any _).mono ?_; rintro e w' ⟨rfl, rfl⟩)
    go_ret
    exact ⟨rfl, Below.refl _ _⟩

/-- The other one of a class. -/
def otherI (k : Int) : Int := if greatI k = k then smallI k else greatI k

theorem other_plain {k : Int} (h0 : 0 ≤ k) (h1 : k ≤ 255) (hk : knownB (smallI k) = true) :
    smallI (otherI k) = smallI k ∧ greatB (otherI k) = (!greatB k) ∧ 0 ≤ otherI k ∧ otherI k ≤ 255 := by
  obtain ⟨n, rfl⟩ := Int.eq_ofNat_of_zero_le h0
  have key : ∀ n : Fin 256, knownB (smallI (n.val : Int)) = true → smallI (otherI (n.val : Int)) = smallI (n.val : Int) ∧ greatB (otherI (n.val : Int)) = (!greatB (n.val : Int)) ∧ 0 ≤ otherI (n.val : Int) ∧ otherI (n.val : Int) ≤ 255 := by
    decide +kernel
  exact key ⟨n, by omega⟩ hk

theorem isB_other {k : Int} (h0 : 0 ≤ k) (h1 : k ≤ 255) (hk : knownB (smallI k) = true) (c : Int) : isB (otherI k) c = !isB k c := by
  obtain ⟨e1, e2, _⟩ := other_plain h0 h1 hk
  unfold isB
  rw [e1, e2, hk]
  cases plainB (smallI k) c <;> cases greatB k <;> rfl

set_option maxRecDepth 100000 in
theorem kindOther_known (k : Int) (h0 : 0 ≤ k) (h1 : k ≤ 255) (c : Int) (c0 : 0 ≤ c) (c1 : c ≤ 255) (hk : knownB (smallI k) = true) (w : World) :
    Calls Try.prog 10 #[.int .u8 k, .int .u8 c] w fun e w' => e = .returned (.bool true) ∧ Below w.heap.size w w' := by
  obtain ⟨q1, q2, q3, q4⟩ := other_plain h0 h1 hk
  have hn : ∀ n : Nat, n < 256 → isB (otherI k) n = !isB k n := fun n _ => isB_other h0 h1 hk n
  have e0 := not_acc 0 (by omega) hn
  have e1 := not_acc 1 (by omega) hn
  have e2 := not_acc 2 (by omega) hn
  have e3 := not_acc 3 (by omega) hn
  simp only [Int.natCast_zero, Int.natCast_one, show ((2 : Nat) : Int) = (2 : Int) from rfl, show ((3 : Nat) : Int) = (3 : Int) from rfl] at e0 e1 e2 e3
  obtain ⟨m, rfl⟩ := Int.eq_ofNat_of_zero_le c0
  have hS := has_acc (isB k) m (by omega)
  have hT := has_acc (isB (otherI k)) m (by omega)
  rw [isB_other h0 h1 hk] at hT
  have hko : knownB (smallI (otherI k)) = true := by rw [q1]; exact hk
  clear hn q1 q2
  have Hko := Lib.hid hko; clear hko
  obtain ⟨o, ho⟩ : ∃ o, otherI k = o := ⟨_, rfl⟩
  have hoo := ho
  rw [ho] at e0 e1 e2 e3 hT q3 q4 Hko
  unfold otherI at hoo
  clear ho
  by_cases hg : greatI k = k
  · rw [if_pos hg] at hoo
    have hgb : (greatI k == k) = true := by simpa using hg
    have Hoo := Lib.hid hoo
    have Hhg := Lib.hid hg
    clear hoo hg
    go_enter Try.func10, Try.ntmps10
    go_wp2_with (first | (go_at_call 16; refine (Known_any _ (by assumption) (by assumption) _).mono ?_; rintro e w' ⟨rfl, rfl⟩) | (go_at_call 14; refine (kknown_any _).mono ?_; rintro e w' ⟨rfl, rfl⟩) | (go_at_call 20; refine (Great_any _ (by assumption) (by assumption) _).mono ?_; rintro e w' ⟨rfl, rfl⟩) | (go_at_call 18; refine (Small_any _ (by assumption) (by assumption) _).mono ?_; rintro e w' ⟨rfl, rfl⟩))
    clear hgb
    refine (Of_any k h0 h1 _).mono ?_
    rintro e w1 ⟨rfl, hq⟩
    have hB : From w w1 := hq
    clear hq
    rw [ofV_eq, hk]
    go_wp2_with fail
    generalize hW : World.alloc w1 _ = W1
    have hN : From w1 W1 := hW ▸ From.new
    have fa : Four W1 w1.heap.size _ _ _ _ := hW ▸ Four.new
    clear hW
    replace hB := From.trans hB hN
    clear hN
    rw [Hoo.out]
    refine (Of_any o q3 q4 _).mono ?_
    rintro e w2 ⟨rfl, hq⟩
    replace fa := Four.from fa hq
    replace hB := From.trans hB hq
    clear hq
    rw [ofV_eq, Hko.out]
    go_wp2_with fail
    generalize hW : World.alloc w2 _ = W2
    have hN : From w2 W2 := hW ▸ From.new
    have fb : Four W2 w2.heap.size _ _ _ _ := hW ▸ Four.new
    clear hW
    replace fa := Four.from fa hN
    replace hB := From.trans hB hN
    clear hN
    first | (refine wp_region_from_still ?_) | (refine wp_region_from (by kernel_rfl) (by kernel_rfl) ?_)
    repeat
      first
        | ((refine wpQ_skip (by rfl) ?_); (try simp only [Act.put, List.setIfInBounds_toArray, List.set_cons_zero, List.set_cons_succ]))
        | (apply wpQ_val (by rfl); (focus (intro w' hC; (have e00 := From.cell hC fa.c0; have e01 := From.cell hC fa.c1; have e02 := From.cell hC fa.c2; have e03 := From.cell hC fa.c3; have e10 := From.cell hC fb.c0; have e11 := From.cell hC fb.c1; have e12 := From.cell hC fb.c2; have e13 := From.cell hC fb.c3); go_simp; (first | done | exact rfl))); (try simp only [Act.put, List.setIfInBounds_toArray, List.set_cons_zero, List.set_cons_succ]))
        | (apply wpQ_call (by rfl); (focus (intro w' hC; go_simp; (first | done | exact rfl | exact ⟨rfl, rfl⟩))); (focus (intro w' hC; first | (with_reducible exact From.of_calls hC (Not_any _ _ _ _ _)) | (with_reducible refine From.of_calls hC (Has_any _ _ _ _ _ ?_ ?_ _) <;> assumption) | (with_reducible refine From.of_same hC (Is_any _ _ ?_ ?_ _) <;> assumption))); (try simp only [Act.put, List.setIfInBounds_toArray, List.set_cons_zero, List.set_cons_succ]))
    refine wpQuiet_nil ?_
    intro wq hq
    replace hB := From.trans hB hq
    go_wp2
    go_ret
    exact ⟨ret_bool (by simp), hB⟩
  · rw [if_neg hg] at hoo
    have hgb : (greatI k == k) = false := by simpa using hg
    have Hoo := Lib.hid hoo
    clear hoo hg
    go_enter Try.func10, Try.ntmps10
    go_wp2_with (first | (go_at_call 16; refine (Known_any _ (by assumption) (by assumption) _).mono ?_; rintro e w' ⟨rfl, rfl⟩) | (go_at_call 14; refine (kknown_any _).mono ?_; rintro e w' ⟨rfl, rfl⟩) | (go_at_call 20; refine (Great_any _ (by assumption) (by assumption) _).mono ?_; rintro e w' ⟨rfl, rfl⟩) | (go_at_call 18; refine (Small_any _ (by assumption) (by assumption) _).mono ?_; rintro e w' ⟨rfl, rfl⟩))
    clear hgb
    refine (Of_any k h0 h1 _).mono ?_
    rintro e w1 ⟨rfl, hq⟩
    have hB : From w w1 := hq
    clear hq
    rw [ofV_eq, hk]
    go_wp2_with fail
    generalize hW : World.alloc w1 _ = W1
    have hN : From w1 W1 := hW ▸ From.new
    have fa : Four W1 w1.heap.size _ _ _ _ := hW ▸ Four.new
    clear hW
    replace hB := From.trans hB hN
    clear hN
    rw [Hoo.out]
    refine (Of_any o q3 q4 _).mono ?_
    rintro e w2 ⟨rfl, hq⟩
    replace fa := Four.from fa hq
    replace hB := From.trans hB hq
    clear hq
    rw [ofV_eq, Hko.out]
    go_wp2_with fail
    generalize hW : World.alloc w2 _ = W2
    have hN : From w2 W2 := hW ▸ From.new
    have fb : Four W2 w2.heap.size _ _ _ _ := hW ▸ Four.new
    clear hW
    replace fa := Four.from fa hN
    replace hB := From.trans hB hN
    clear hN
    first | (refine wp_region_from_still ?_) | (refine wp_region_from (by kernel_rfl) (by kernel_rfl) ?_)
    repeat
      first
        | ((refine wpQ_skip (by rfl) ?_); (try simp only [Act.put, List.setIfInBounds_toArray, List.set_cons_zero, List.set_cons_succ]))
        | (apply wpQ_val (by rfl); (focus (intro w' hC; (have e00 := From.cell hC fa.c0; have e01 := From.cell hC fa.c1; have e02 := From.cell hC fa.c2; have e03 := From.cell hC fa.c3; have e10 := From.cell hC fb.c0; have e11 := From.cell hC fb.c1; have e12 := From.cell hC fb.c2; have e13 := From.cell hC fb.c3); go_simp; (first | done | exact rfl))); (try simp only [Act.put, List.setIfInBounds_toArray, List.set_cons_zero, List.set_cons_succ]))
        | (apply wpQ_call (by rfl); (focus (intro w' hC; go_simp; (first | done | exact rfl | exact ⟨rfl, rfl⟩))); (focus (intro w' hC; first | (with_reducible exact From.of_calls hC (Not_any _ _ _ _ _)) | (with_reducible refine From.of_calls hC (Has_any _ _ _ _ _ ?_ ?_ _) <;> assumption) | (with_reducible refine From.of_same hC (Is_any _ _ ?_ ?_ _) <;> assumption))); (try simp only [Act.put, List.setIfInBounds_toArray, List.set_cons_zero, List.set_cons_succ]))
    refine wpQuiet_nil ?_
    intro wq hq
    replace hB := From.trans hB hq
    go_wp2
    go_ret
    exact ⟨ret_bool (by simp), hB⟩

theorem kindOther_law (k : Int) (h0 : 0 ≤ k) (h1 : k ≤ 255) (c : Int) (c0 : 0 ≤ c) (c1 : c ≤ 255) (w : World) :
    Calls Try.prog 10 #[.int .u8 k, .int .u8 c] w fun e w' => e = .returned (.bool true) ∧ Below w.heap.size w w' := by
  by_cases hk : knownB (smallI k) = true
  · exact kindOther_known k h0 h1 c c0 c1 hk w
  · have hk' : knownB (smallI k) = false := by simpa using hk
    clear hk
    go_enter Try.func10, Try.ntmps10
    go_wp2_with (first | (go_at_call 16; refine (Known_any _ (by assumption) (by assumption) _).mono ?_; rintro e w' ⟨rfl, rfl⟩) | (go_at_call 14; refine (kknown_any _).mono ?_; rintro e w' ⟨rfl, rfl⟩))
    all_goals go_ret
    all_goals exact ⟨rfl, Below.refl _ _⟩
end Go.Proofs.Ytemnppfdoicmpaa
