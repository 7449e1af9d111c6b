/- Contract of the law's digits. -/
import Derived.Test.YtigbfgmgdfnhcaaCat
import Derived.Test.YtigbfgmgdfnhcaaBaseA0
set_option linter.all false
set_option linter.unusedVariables false
set_option linter.unusedSimpArgs false
namespace Go.Proofs.Ytigbfgmgdfnhcaa
open Go.RowKit

theorem ret_str {v : Value} {s : ByteArray} (h : v = .string s) : Ending.returned v = Ending.returned (.string s) := by rw [h]
theorem two_bytes (a b c d : UInt8) (h1 : a = c) (h2 : b = d) : (⟨#[a]⟩ ++ ⟨#[b]⟩ : ByteArray) = ⟨[c, d].toArray⟩ := by
  subst h1 h2
  apply ByteArray.ext
  simp [ByteArray.data_append]
def digL (n : Nat) : List UInt8 := if n < 10 then [UInt8.ofNat (48 + n)] else [UInt8.ofNat (48 + n / 10), UInt8.ofNat (48 + n % 10)]
set_option maxRecDepth 100000 in
set_option maxHeartbeats 4000000 in
theorem digits_small {w : World} (n : Nat) (hn : n < 10) : Calls Try.prog 16 #[.int .i64 (n : Int)] w fun e w' => e = .returned (.string ⟨#[UInt8.ofNat (48 + n)]⟩) ∧ Upd (fun _ => False) w w' := by
  have hU0 := Upd.refl (fun k => w.heap.size ≤ k) w
  have g1 : (n : Int) < 10 := by omega
  have hc : 48 + n < 256 := by omega
  go_enter Try.func16, Try.ntmps16
  go_wp2_with (first
    | ((with_reducible refine stopBS 43 _ _ rfl ?_); unfold Stop; refine wpList_sliceLit_blk rfl 43 5 1 _ rfl Try.underlying43 #[.int .u8 ((48 + n : Nat) : Int)] (by go_simp; first | done | rfl | kernel_rfl) ?_; intro bB w8 hbB kB hu8 hs8)
    | ((with_reducible refine stopCnv 43 9 _ rfl ?_); unfold Stop; refine wpList_cnv rfl rfl rfl (cnv_byte _ bB (48 + n) hc kB) ?_))
  go_ret
  exact ⟨ret_str (by simp [Act.put]), hu8⟩
set_option maxRecDepth 100000 in
set_option maxHeartbeats 4000000 in
theorem digits_any {w : World} (n : Nat) (hn : n < 100) : Calls Try.prog 16 #[.int .i64 (n : Int)] w fun e w' => e = .returned (.string ⟨(digL n).toArray⟩) ∧ Upd (fun _ => False) w w' := by
  by_cases h : n < 10
  · refine (digits_small n h).mono ?_
    rintro e w' ⟨rfl, hu⟩
    exact ⟨by unfold digL; rw [if_pos h], hu⟩
  · have HD : Hid (digL n = [UInt8.ofNat (48 + n / 10), UInt8.ofNat (48 + n % 10)]) := Lib.hid (by unfold digL; rw [if_neg h])
    have g1 : ¬ (n : Int) < 10 := by omega
    have HA : Hid (∀ w : World, Calls Try.prog 16 #[.int .i64 ((n : Int) / 10)] w fun e w' => e = .returned (.string ⟨#[UInt8.ofNat (48 + n / 10)]⟩) ∧ Upd (fun _ => False) w w') := Lib.hid (fun w => by have h := digits_small (w := w) (n / 10) (by omega); rw [show ((n / 10 : Nat) : Int) = (n : Int) / 10 by omega] at h; exact h)
    have HB : Hid (∀ w : World, Calls Try.prog 16 #[.int .i64 ((n : Int) % 10)] w fun e w' => e = .returned (.string ⟨#[UInt8.ofNat (48 + n % 10)]⟩) ∧ Upd (fun _ => False) w w') := Lib.hid (fun w => by have h := digits_small (w := w) (n % 10) (by omega); rw [show ((n % 10 : Nat) : Int) = (n : Int) % 10 by omega] at h; exact h)
    go_enter Try.func16, Try.ntmps16
    go_wp2_with (first
      | (go_at_call 16; have hq := hu1; clear hq; refine (HB.out _).mono ?_; rintro e w2 ⟨rfl, hu2⟩)
      | (go_at_call 16; refine (HA.out _).mono ?_; rintro e w1 ⟨rfl, hu1⟩))
    go_ret
    exact ⟨ret_str (by rw [HD.out]; exact congrArg Value.string (two_bytes _ _ _ _ (by simp) (by simp))), hu1.then hu2 (fun _ _ h => h)⟩
end Go.Proofs.Ytigbfgmgdfnhcaa
