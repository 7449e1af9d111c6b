/- Contracts of the law's word and small. -/
import Derived.Test.YtigbfgmgdfnhcaaCat
import Derived.Test.YtigbfgmgdfnhcaaWd
import Derived.Deep.LoopGhost
import Derived.Deep.CutBlock
import Derived.WalkKit
import Derived.Test.YtigbfgmgdfnhcaaBaseA0
set_option linter.all false
set_option linter.unusedVariables false
set_option linter.unusedSimpArgs false
namespace Go.Proofs.Ytigbfgmgdfnhcaa
open Go.RowKit

theorem esc_app : ∀ (s t : List UInt8), escL (s ++ t) = escL s ++ escL t
  | [], t => rfl
  | c :: s, t => by
    rw [List.cons_append, escL, escL, esc_app s t]
    split <;> rfl
theorem take_one (s : ByteArray) (k : Nat) (h : k < s.size) : s.data.toList.take (k + 1) = s.data.toList.take k ++ [s[k]] := by
  rw [List.take_succ_eq_append_getElem (by simpa using h)]; rfl
theorem piece_one (s : ByteArray) (k : Nat) (h : k < s.size) : (s.extract k (k + 1)).data.toList = [s[k]] := by
  rw [ByteArray.data_extract, Array.toList_extract, List.extract_eq_take_drop]
  have e : s.data.toList.drop k = s.data.toList[k]'(by simpa using h) :: s.data.toList.drop (k + 1) := List.drop_eq_getElem_cons (by simpa using h)
  rw [e]
  simp
  rfl
set_option maxRecDepth 100000 in
set_option maxHeartbeats 4000000 in
theorem lword_any (s : ByteArray) (hs : s.size ≤ 1000) (W : World) :
    Calls Try.prog 22 #[.string s] W fun e w' => ∃ o : ByteArray, e = .returned (.string o) ∧ o.data.toList = wordL s.data.toList ∧ W = w' := by
  go_enter Try.func22, Try.ntmps22
  go_wp2_with fail
  go_loopg [3, 4] s.size (fun gk ov iv wr => ∃ (i : Nat) (S : ByteArray), ov = .string S ∧ iv = .int .i64 (i : Int) ∧ i ≤ s.size ∧ i + gk = s.size ∧ Hid (S.data.toList = 92 :: 86 :: escL (s.data.toList.take i)) ∧ S.size ≤ 2 + 2 * i ∧ wr = W)
  case atStart => exact ⟨0, _, rfl, rfl, Nat.zero_le _, by omega, Lib.hid rfl, by decide, rfl⟩
  case round =>
    obtain ⟨i, S, rfl, rfl, hi, hg, HS, hz, rfl⟩ := hrel
    by_cases hlt : i < s.size
    · have gi : (i : Int) < (s.size : Int) := by omega
      have HT := Lib.hid (take_one s i hlt)
      have HP := Lib.hid (piece_one s i hlt)
      by_cases hc : s[i]'hlt = 92
      · have hq : ((((s[i]'hlt).toNat : Nat) : Int) == 92) = true := by rw [hc]; rfl
        have HC := Lib.hid hc
        clear hc
        go_wp2_with fail
        go_roundg (gk - 1)
        case measure => omega
        case rel =>
          refine ⟨i + 1, _, rfl, by go_num, by omega, by omega, Lib.hid ?_, ?_, rfl⟩
          · rw [HT.out, esc_app]
            simp only [ByteArray.data_append, Array.toList_append, HS.out, HP.out]
            rw [HC.out]
            simp [escL]
          · have zT : (s.extract i (i + 1)).size ≤ 1 := by rw [ByteArray.size_extract]; omega
            rw [ByteArray.size_append, ByteArray.size_append]
            show S.size + 1 + _ ≤ _
            omega
      · have hq : ((((s[i]'hlt).toNat : Nat) : Int) == 92) = false := beq_eq_false_iff_ne.mpr (fun e => hc (UInt8.toNat_inj.1 (show (s[i]'hlt).toNat = 92 by omega)))
        have HC := Lib.hid hc
        clear hc
        go_wp2_with fail
        go_roundg (gk - 1)
        case measure => omega
        case rel =>
          refine ⟨i + 1, _, rfl, by go_num, by omega, by omega, Lib.hid ?_, ?_, rfl⟩
          · rw [HT.out, esc_app]
            simp only [ByteArray.data_append, Array.toList_append, HS.out, HP.out]
            simp [escL, HC.out]
          · have zT : (s.extract i (i + 1)).size ≤ 1 := by rw [ByteArray.size_extract]; omega
            rw [ByteArray.size_append]
            omega
    · have gi : ¬ (i : Int) < (s.size : Int) := by omega
      obtain rfl : i = s.size := by omega
      go_wp2_with fail
      go_ret
      refine ⟨_, rfl, ?_, rfl⟩
      rw [HS.out, List.take_of_length_le (by simp)]
      rfl
/-- Small letters alone. -/
def smallL (l : List UInt8) : List UInt8 := l.map fun c => UInt8.ofNat (smallI (c.toNat : Int)).toNat
theorem smallI_u8 (c : UInt8) : 0 ≤ smallI (c.toNat : Int) ∧ smallI (c.toNat : Int) ≤ 255 := by
  have h := c.toNat_lt
  unfold smallI greatB btw
  split
  · rename_i g
    simp only [Bool.and_eq_true, decide_eq_true_eq] at g
    omega
  · omega
set_option maxRecDepth 100000 in
set_option maxHeartbeats 4000000 in
theorem lsmall_any (s : ByteArray) (hs : s.size ≤ 1000) (W : World) :
    Calls Try.prog 23 #[.string s] W fun e w' => ∃ o : ByteArray, e = .returned (.string o) ∧ o.data.toList = smallL s.data.toList ∧ Upd (fun _ => False) W w' := by
  obtain ⟨w, rfl⟩ : ∃ w, w = W := ⟨_, rfl⟩
  go_enter Try.func23, Try.ntmps23
  go_wp2_with fail
  go_loopg [3, 4] s.size (fun gk ov iv wr => ∃ (i : Nat) (S : ByteArray), ov = .string S ∧ iv = .int .i64 (i : Int) ∧ i ≤ s.size ∧ i + gk = s.size ∧ Hid (S.data.toList = smallL (s.data.toList.take i)) ∧ S.size ≤ i ∧ Upd (fun _ => False) w wr)
  case atStart => exact ⟨0, _, rfl, rfl, Nat.zero_le _, by omega, Lib.hid rfl, by decide, Upd.refl _ _⟩
  case round =>
    obtain ⟨i, S, rfl, rfl, hi, hg, HS, hz, hW⟩ := hrel
    have HW := Lib.hid hW
    clear hW
    by_cases hlt : i < s.size
    · have gi : (i : Int) < (s.size : Int) := by omega
      have HT := Lib.hid (take_one s i hlt)
      have hr := smallI_u8 (s[i]'hlt)
      obtain ⟨cn, hcn⟩ : ∃ n : Nat, smallI ((s[i]'hlt).toNat : Int) = n := ⟨(smallI ((s[i]'hlt).toNat : Int)).toNat, by omega⟩
      have hcl : cn < 256 := by omega
      have hb := (s[i]'hlt).toNat_lt
      have HC := Lib.hid hcn
      clear hr hcn
      go_wp2_with (first
        | (go_at_call 31; refine (rSmall_any _ (by omega) (by omega) _).mono ?_; rintro e w9 ⟨rfl, rfl⟩; rw [HC.out])
        | ((with_reducible refine stopBS 43 _ _ rfl ?_); unfold Stop; refine wpList_sliceLit_blk rfl 43 5 1 _ rfl Try.underlying43 #[.int .u8 (cn : Int)] (by go_simp; first | done | rfl | kernel_rfl) ?_; intro bB w8 hbB kB hu8 hs8)
        | ((with_reducible refine stopCnv 43 9 _ rfl ?_); unfold Stop; refine wpList_cnv rfl rfl rfl (cnv_byte _ bB cn hcl kB) ?_))
      go_roundg (gk - 1)
      case measure => omega
      case rel =>
        refine ⟨i + 1, _, rfl, by go_num, by omega, by omega, Lib.hid ?_, ?_, HW.out.then hu8 (fun _ _ h => h)⟩
        · rw [HT.out]
          simp only [ByteArray.data_append, Array.toList_append, HS.out]
          simp only [smallL, List.map_append, List.map_cons, List.map_nil]
          rw [HC.out]
          simp
        · rw [ByteArray.size_append]
          show S.size + 1 ≤ _
          omega
    · have gi : ¬ (i : Int) < (s.size : Int) := by omega
      obtain rfl : i = s.size := by omega
      go_wp2_with fail
      go_ret
      refine ⟨_, rfl, ?_, HW.out⟩
      rw [HS.out, List.take_of_length_le (by simp)]
end Go.Proofs.Ytigbfgmgdfnhcaa
