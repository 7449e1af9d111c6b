/- Sums of strings, whatever they are. -/
import Derived.Test.YtigbfgmgdfnhcaaBaseA41
import Derived.Laws.IdiomStrings
import Derived.Lib.Hide
import Derived.Test.YtigbfgmgdfnhcaaBaseA0
set_option linter.all false
set_option linter.unusedVariables false
set_option linter.unusedSimpArgs false
namespace Go.Proofs.Ytigbfgmgdfnhcaa
open Go.RowKit

section
variable {P : Program} {ops : Array Oper} {rest : List Oper} {op : Oper} {a : Act} {w : World} {Q : Exit → Act → World → Prop}
theorem stopAdd (s d : TypeId) (x y : Operand) (ho : op.op = .binOp .add s x y d) (h : Stop (wpList P ops Q (op :: rest) a w)) : wpList P ops Q (op :: rest) a w := h
theorem wpList_cat {s d : TypeId} {x y : Operand} {s1 s2 : ByteArray} (hgd : op.guard = none) (ho : op.op = .binOp .add s x y d) (h1 : a.eval x = .string s1) (h2 : a.eval y = .string s2) (hsz : s1.size + s2.size ≤ 9223372036854775807)
    (hk : ∀ s3 : ByteArray, Hid (s3 = s1 ++ s2) → s3.size ≤ s1.size + s2.size → wpList P ops Q rest (a.put op.dst (.string s3)) w) : wpList P ops Q (op :: rest) a w := by
  refine wpList_plain hgd fun K hK => ?_
  unfold Oper.wp execOp
  simp only [ho, h1, h2, binOp_string_add, Sem.run_bind]
  rw [show (Sem.run P (eqGuard BinOp.add s x y (Value.string s1) (Value.string s2)) w) = .ok () w from rfl]
  simp only [Result.andThen_ok, run_string_add_sum w s1 s2 hsz, Sem.run_pure]
  exact hK _ _ (hk (s1 ++ s2) (Lib.hid rfl) (Nat.le_of_eq (by rw [ByteArray.size_append])))
theorem stopCnv (s d : TypeId) (x : Operand) (ho : op.op = .convert s d x) (h : Stop (wpList P ops Q (op :: rest) a w)) : wpList P ops Q (op :: rest) a w := h
theorem wpList_cnv {s d : TypeId} {x : Operand} {v u : Value} (hgd : op.guard = none) (ho : op.op = .convert s d x) (hv : a.eval x = v) (h : (convert s d v).run P w = .ok u w) (hk : wpList P ops Q rest (a.put op.dst u) w) : wpList P ops Q (op :: rest) a w := by
  refine wpList_plain hgd fun K hK => ?_
  unfold Oper.wp execOp
  simp only [ho, hv, Sem.run_bind, h, Result.andThen_ok, Sem.run_pure]
  exact hK _ _ hk
theorem cnv_byte (w : World) (b : Nat) (c : Nat) (hc : c < 256) (h : w.heap[b]? = some (.cells #[.int .u8 (c : Int)] 5 (0, 0))) : (convert 43 9 (.slice (some ⟨b, 0, none⟩) 1 1)).run Try.prog w = .ok (.string ⟨#[UInt8.ofNat c]⟩) w := by
  refine run_convert_bytes_back w 43 9 5 ⟨b, 0, none⟩ 1 [UInt8.ofNat c] Try.underlying43 Try.underlying5 Try.underlying9 (fun j hj => ?_)
  have hj0 : j = 0 := by simp at hj; omega
  subst hj0
  rw [Addr.add_mid, Nat.zero_add]
  have h1 := cell_of h 0 (v := .int .u8 (c : Int)) rfl
  rw [h1]
  simp
  omega
end
theorem cat_list {s1 s2 s3 : ByteArray} (h : Hid (s3 = s1 ++ s2)) : s3.data.toList = s1.data.toList ++ s2.data.toList := by
  rw [h.out]
  simp [ByteArray.data_append]
end Go.Proofs.Ytigbfgmgdfnhcaa
