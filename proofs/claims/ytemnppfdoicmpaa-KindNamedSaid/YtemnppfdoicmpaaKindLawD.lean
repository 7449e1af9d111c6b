/- The walk of the law KindNamed. -/
import Derived.Test.YtemnppfdoicmpaaKindLawC
import Derived.Deep.CutRange
namespace Go.Proofs.Ytemnppfdoicmpaa
open Go.RowKit
attribute [local go_sem] eqlS

theorem Named_const (l : List UInt8) (p : Int → Bool) (hp : ∀ c, nameP l c = p c) (hi : nameIs l = true) (w : World) :
    Calls Try.prog 34 #[.string ⟨l.toArray⟩] w fun e w' => e = .returned (ofV p true) ∧ Below w.heap.size w w' := by
  have h := Named_any ⟨l.toArray⟩ w
  rw [ByteArray.toList_eq] at h
  rw [hi, ofV_congr (q := p) true (fun c _ => hp c)] at h
  exact h

theorem Named_alpha (w : World) : Calls Try.prog 34 #[.string ⟨#[97, 108, 112, 104, 97]⟩] w fun e w' => e = .returned (ofV letterB true) ∧ Below w.heap.size w w' :=
  Named_const [97, 108, 112, 104, 97] letterB (fun _ => rfl) rfl w
theorem Named_digit (w : World) : Calls Try.prog 34 #[.string ⟨#[100, 105, 103, 105, 116]⟩] w fun e w' => e = .returned (ofV digitB true) ∧ Below w.heap.size w w' :=
  Named_const [100, 105, 103, 105, 116] digitB (fun _ => rfl) rfl w
theorem Named_alnum (w : World) : Calls Try.prog 34 #[.string ⟨#[97, 108, 110, 117, 109]⟩] w fun e w' => e = .returned (ofV alnumB true) ∧ Below w.heap.size w w' :=
  Named_const [97, 108, 110, 117, 109] alnumB (fun _ => rfl) rfl w
theorem Named_lower (w : World) : Calls Try.prog 34 #[.string ⟨#[108, 111, 119, 101, 114]⟩] w fun e w' => e = .returned (ofV smallB true) ∧ Below w.heap.size w w' :=
  Named_const [108, 111, 119, 101, 114] smallB (fun _ => rfl) rfl w
theorem Named_upper (w : World) : Calls Try.prog 34 #[.string ⟨#[117, 112, 112, 101, 114]⟩] w fun e w' => e = .returned (ofV greatB true) ∧ Below w.heap.size w w' :=
  Named_const [117, 112, 112, 101, 114] greatB (fun _ => rfl) rfl w
theorem Named_xdigit (w : World) : Calls Try.prog 34 #[.string ⟨#[120, 100, 105, 103, 105, 116]⟩] w fun e w' => e = .returned (ofV hexB true) ∧ Below w.heap.size w w' :=
  Named_const [120, 100, 105, 103, 105, 116] hexB (fun _ => rfl) rfl w
theorem Named_punct (w : World) : Calls Try.prog 34 #[.string ⟨#[112, 117, 110, 99, 116]⟩] w fun e w' => e = .returned (ofV punctB true) ∧ Below w.heap.size w w' :=
  Named_const [112, 117, 110, 99, 116] punctB (fun _ => rfl) rfl w

theorem Of_x (w : World) : Calls Try.prog 32 #[.int .u8 120] w fun e w' => e = .returned (ofV hexB true) ∧ Below w.heap.size w w' := by
  have h := Of_any 120 (by decide) (by decide) w
  rw [ofV_congr (q := hexB) _ (fun c _ => by show (hexB c != false) = _; simp)] at h
  exact h

theorem punct_alnum (c : Int) (h : punctB c = true) : alnumB c = false := by
  unfold punctB at h; simp at h; exact h.2

set_option maxRecDepth 100000 in
set_option maxHeartbeats 1000000 in
theorem kindNamed_law (c : Int) (c0 : 0 ≤ c) (c1 : c ≤ 255) (w : World) :
    Calls Try.prog 12 #[.int .u8 c] w fun e w' => e = .returned (.bool true) ∧ Below w.heap.size w w' := by
  have b0 := both_acc (p := letterB) (q := digitB) (r := alnumB) 0 (fun _ _ => rfl)
  have b1 := both_acc (p := letterB) (q := digitB) (r := alnumB) 1 (fun _ _ => rfl)
  have b2 := both_acc (p := letterB) (q := digitB) (r := alnumB) 2 (fun _ _ => rfl)
  have b3 := both_acc (p := letterB) (q := digitB) (r := alnumB) 3 (fun _ _ => rfl)
  have d0 := both_acc (p := smallB) (q := greatB) (r := letterB) 0 (fun _ _ => rfl)
  have d1 := both_acc (p := smallB) (q := greatB) (r := letterB) 1 (fun _ _ => rfl)
  have d2 := both_acc (p := smallB) (q := greatB) (r := letterB) 2 (fun _ _ => rfl)
  have d3 := both_acc (p := smallB) (q := greatB) (r := letterB) 3 (fun _ _ => rfl)
  simp only [Int.natCast_zero, Int.natCast_one, show ((2 : Nat) : Int) = (2 : Int) from rfl, show ((3 : Nat) : Int) = (3 : Int) from rfl] at b0 b1 b2 b3 d0 d1 d2 d3
  obtain ⟨m, rfl⟩ := Int.eq_ofNat_of_zero_le c0
  have hS := has_acc smallB m (by omega)
  have hT := has_acc greatB m (by omega)
  have hU := has_acc punctB m (by omega)
  have hV := has_acc alnumB m (by omega)
  have hl : isB 108 (m : Int) = smallB m := by show (smallB m != false) = _; simp
  have hu : isB 117 (m : Int) = greatB m := by show (greatB m != false) = _; simp
  go_enter Try.func12, Try.ntmps12
  go_wp2_with fail
  refine (Named_alpha _).mono ?_
  rintro e w1 ⟨rfl, hq⟩
  have hB : From w w1 := hq
  clear hq
  rw [ofV_eq]
  go_wp2_with fail
  generalize hW : World.alloc w1 _ = W1
  have hN : From w1 W1 := hW ▸ From.new
  have falpha : Four W1 w1.heap.size _ _ _ _ := hW ▸ Four.new
  clear hW
  replace hB := From.trans hB hN
  clear hN
  refine (Named_digit _).mono ?_
  rintro e w2 ⟨rfl, hq⟩
  replace falpha := Four.from falpha hq
  replace hB := From.trans hB hq
  clear hq
  rw [ofV_eq]
  go_wp2_with fail
  generalize hW : World.alloc w2 _ = W2
  have hN : From w2 W2 := hW ▸ From.new
  have fdigit : Four W2 w2.heap.size _ _ _ _ := hW ▸ Four.new
  clear hW
  replace falpha := Four.from falpha hN
  replace hB := From.trans hB hN
  clear hN
  refine (Named_alnum _).mono ?_
  rintro e w3 ⟨rfl, hq⟩
  replace falpha := Four.from falpha hq
  replace fdigit := Four.from fdigit hq
  replace hB := From.trans hB hq
  clear hq
  rw [ofV_eq]
  go_wp2_with fail
  generalize hW : World.alloc w3 _ = W3
  have hN : From w3 W3 := hW ▸ From.new
  have falnum : Four W3 w3.heap.size _ _ _ _ := hW ▸ Four.new
  clear hW
  replace falpha := Four.from falpha hN
  replace fdigit := Four.from fdigit hN
  replace hB := From.trans hB hN
  clear hN
  refine (Named_lower _).mono ?_
  rintro e w4 ⟨rfl, hq⟩
  replace falpha := Four.from falpha hq
  replace fdigit := Four.from fdigit hq
  replace falnum := Four.from falnum hq
  replace hB := From.trans hB hq
  clear hq
  rw [ofV_eq]
  go_wp2_with fail
  generalize hW : World.alloc w4 _ = W4
  have hN : From w4 W4 := hW ▸ From.new
  have flower : Four W4 w4.heap.size _ _ _ _ := hW ▸ Four.new
  clear hW
  replace falpha := Four.from falpha hN
  replace fdigit := Four.from fdigit hN
  replace falnum := Four.from falnum hN
  replace hB := From.trans hB hN
  clear hN
  refine (Named_upper _).mono ?_
  rintro e w5 ⟨rfl, hq⟩
  replace falpha := Four.from falpha hq
  replace fdigit := Four.from fdigit hq
  replace falnum := Four.from falnum hq
  replace flower := Four.from flower hq
  replace hB := From.trans hB hq
  clear hq
  rw [ofV_eq]
  go_wp2_with fail
  generalize hW : World.alloc w5 _ = W5
  have hN : From w5 W5 := hW ▸ From.new
  have fupper : Four W5 w5.heap.size _ _ _ _ := hW ▸ Four.new
  clear hW
  replace falpha := Four.from falpha hN
  replace fdigit := Four.from fdigit hN
  replace falnum := Four.from falnum hN
  replace flower := Four.from flower hN
  replace hB := From.trans hB hN
  clear hN
  refine (Named_xdigit _).mono ?_
  rintro e w6 ⟨rfl, hq⟩
  replace falpha := Four.from falpha hq
  replace fdigit := Four.from fdigit hq
  replace falnum := Four.from falnum hq
  replace flower := Four.from flower hq
  replace fupper := Four.from fupper hq
  replace hB := From.trans hB hq
  clear hq
  rw [ofV_eq]
  go_wp2_with fail
  generalize hW : World.alloc w6 _ = W6
  have hN : From w6 W6 := hW ▸ From.new
  have fxdigit : Four W6 w6.heap.size _ _ _ _ := hW ▸ Four.new
  clear hW
  replace falpha := Four.from falpha hN
  replace fdigit := Four.from fdigit hN
  replace falnum := Four.from falnum hN
  replace flower := Four.from flower hN
  replace fupper := Four.from fupper hN
  replace hB := From.trans hB hN
  clear hN
  refine (Named_punct _).mono ?_
  rintro e w7 ⟨rfl, hq⟩
  replace falpha := Four.from falpha hq
  replace fdigit := Four.from fdigit hq
  replace falnum := Four.from falnum hq
  replace flower := Four.from flower hq
  replace fupper := Four.from fupper hq
  replace fxdigit := Four.from fxdigit hq
  replace hB := From.trans hB hq
  clear hq
  rw [ofV_eq]
  go_wp2_with fail
  generalize hW : World.alloc w7 _ = W7
  have hN : From w7 W7 := hW ▸ From.new
  have fpunct : Four W7 w7.heap.size _ _ _ _ := hW ▸ Four.new
  clear hW
  replace falpha := Four.from falpha hN
  replace fdigit := Four.from fdigit hN
  replace falnum := Four.from falnum hN
  replace flower := Four.from flower hN
  replace fupper := Four.from fupper hN
  replace fxdigit := Four.from fxdigit hN
  replace hB := From.trans hB hN
  clear hN
  refine (Of_x _).mono ?_
  rintro e w8 ⟨rfl, hq⟩
  replace falpha := Four.from falpha hq
  replace fdigit := Four.from fdigit hq
  replace falnum := Four.from falnum hq
  replace flower := Four.from flower hq
  replace fupper := Four.from fupper hq
  replace fxdigit := Four.from fxdigit hq
  replace fpunct := Four.from fpunct hq
  replace hB := From.trans hB hq
  clear hq
  rw [ofV_eq]
  go_wp2_with fail
  generalize hW : World.alloc w8 _ = W8
  have hN : From w8 W8 := hW ▸ From.new
  have fx : Four W8 w8.heap.size _ _ _ _ := hW ▸ Four.new
  clear hW
  replace falpha := Four.from falpha hN
  replace fdigit := Four.from fdigit hN
  replace falnum := Four.from falnum hN
  replace flower := Four.from flower hN
  replace fupper := Four.from fupper hN
  replace fxdigit := Four.from fxdigit hN
  replace fpunct := Four.from fpunct hN
  replace hB := From.trans hB hN
  clear hN
  first | (refine wp_region_from_still ?_) | (refine wp_region_from (by kernel_rfl) (by kernel_rfl) ?_)
  repeat
    first
      | ((refine wpQ_skip (by rfl) ?_); (try simp only [Act.put, List.setIfInBounds_toArray, List.set_cons_zero, List.set_cons_succ]))
      | (apply wpQ_val (by rfl); (focus (intro w' hC; (have e00 := From.cell hC falpha.c0; have e01 := From.cell hC falpha.c1; have e02 := From.cell hC falpha.c2; have e03 := From.cell hC falpha.c3; have e10 := From.cell hC fdigit.c0; have e11 := From.cell hC fdigit.c1; have e12 := From.cell hC fdigit.c2; have e13 := From.cell hC fdigit.c3; have e20 := From.cell hC falnum.c0; have e21 := From.cell hC falnum.c1; have e22 := From.cell hC falnum.c2; have e23 := From.cell hC falnum.c3; have e30 := From.cell hC flower.c0; have e31 := From.cell hC flower.c1; have e32 := From.cell hC flower.c2; have e33 := From.cell hC flower.c3; have e40 := From.cell hC fupper.c0; have e41 := From.cell hC fupper.c1; have e42 := From.cell hC fupper.c2; have e43 := From.cell hC fupper.c3; have e50 := From.cell hC fxdigit.c0; have e51 := From.cell hC fxdigit.c1; have e52 := From.cell hC fxdigit.c2; have e53 := From.cell hC fxdigit.c3; have e60 := From.cell hC fx.c0; have e61 := From.cell hC fx.c1; have e62 := From.cell hC fx.c2; have e63 := From.cell hC fx.c3); go_simp; (first | done | exact rfl))); (try simp only [Act.put, List.setIfInBounds_toArray, List.set_cons_zero, List.set_cons_succ]))
      | (apply wpQ_call (by rfl); (focus (intro w' hC; go_simp; (first | done | exact rfl | exact ⟨rfl, rfl⟩))); (focus (intro w' hC; first | (with_reducible exact From.of_calls hC (Both_any _ _ _ _ _ _ _ _ _)))); (try simp only [Act.put, List.setIfInBounds_toArray, List.set_cons_zero, List.set_cons_succ]))
  refine wpQuiet_nil ?_
  intro wq hq
  replace falpha := Four.from falpha hq
  replace fdigit := Four.from fdigit hq
  replace falnum := Four.from falnum hq
  replace flower := Four.from flower hq
  replace fupper := Four.from fupper hq
  replace fxdigit := Four.from fxdigit hq
  replace fpunct := Four.from fpunct hq
  replace fx := Four.from fx hq
  replace hB := From.trans hB hq
  clear hq
  clear b0 b1 b2 b3 d0 d1 d2 d3
  go_upto_region 10 with (fail)
  cases hp : punctB m
  · rw [hp] at hU
    first | (refine wp_region_from_still ?_) | (refine wp_region_from (by kernel_rfl) (by kernel_rfl) ?_)
    repeat
      first
        | ((refine wpQ_skip (by rfl) ?_); (try simp only [Act.put, List.setIfInBounds_toArray, List.set_cons_zero, List.set_cons_succ]))
        | (apply wpQ_val (by rfl); (focus (intro w' hC; (have e00 := From.cell hC fpunct.c0; have e01 := From.cell hC fpunct.c1; have e02 := From.cell hC fpunct.c2; have e03 := From.cell hC fpunct.c3; have e10 := From.cell hC falnum.c0; have e11 := From.cell hC falnum.c1; have e12 := From.cell hC falnum.c2; have e13 := From.cell hC falnum.c3; have e20 := From.cell hC flower.c0; have e21 := From.cell hC flower.c1; have e22 := From.cell hC flower.c2; have e23 := From.cell hC flower.c3; have e30 := From.cell hC fupper.c0; have e31 := From.cell hC fupper.c1; have e32 := From.cell hC fupper.c2; have e33 := From.cell hC fupper.c3); go_simp; (first | done | exact rfl))); (try simp only [Act.put, List.setIfInBounds_toArray, List.set_cons_zero, List.set_cons_succ]))
        | (apply wpQ_call (by rfl); (focus (intro w' hC; go_simp; (first | done | exact rfl | exact ⟨rfl, rfl⟩))); (focus (intro w' hC; first | (with_reducible exact From.of_same hC (kknown_any _)) | (with_reducible refine From.of_calls hC (Has_any _ _ _ _ _ ?_ ?_ _) <;> assumption) | (with_reducible refine From.of_same hC (Is_any _ _ ?_ ?_ _) <;> decide))); (try simp only [Act.put, List.setIfInBounds_toArray, List.set_cons_zero, List.set_cons_succ]))
    refine wpQuiet_nil ?_
    intro wq hq
    replace hB := From.trans hB hq
    go_wp2
    go_ret
    exact ⟨ret_bool (by simp), hB⟩
  · rw [hp] at hU
    rw [punct_alnum _ hp] at hV
    first | (refine wp_region_from_still ?_) | (refine wp_region_from (by kernel_rfl) (by kernel_rfl) ?_)
    repeat
      first
        | ((refine wpQ_skip (by rfl) ?_); (try simp only [Act.put, List.setIfInBounds_toArray, List.set_cons_zero, List.set_cons_succ]))
        | (apply wpQ_val (by rfl); (focus (intro w' hC; (have e00 := From.cell hC fpunct.c0; have e01 := From.cell hC fpunct.c1; have e02 := From.cell hC fpunct.c2; have e03 := From.cell hC fpunct.c3; have e10 := From.cell hC falnum.c0; have e11 := From.cell hC falnum.c1; have e12 := From.cell hC falnum.c2; have e13 := From.cell hC falnum.c3; have e20 := From.cell hC flower.c0; have e21 := From.cell hC flower.c1; have e22 := From.cell hC flower.c2; have e23 := From.cell hC flower.c3; have e30 := From.cell hC fupper.c0; have e31 := From.cell hC fupper.c1; have e32 := From.cell hC fupper.c2; have e33 := From.cell hC fupper.c3); go_simp; (first | done | exact rfl))); (try simp only [Act.put, List.setIfInBounds_toArray, List.set_cons_zero, List.set_cons_succ]))
        | (apply wpQ_call (by rfl); (focus (intro w' hC; go_simp; (first | done | exact rfl | exact ⟨rfl, rfl⟩))); (focus (intro w' hC; first | (with_reducible exact From.of_same hC (kknown_any _)) | (with_reducible refine From.of_calls hC (Has_any _ _ _ _ _ ?_ ?_ _) <;> assumption) | (with_reducible refine From.of_same hC (Is_any _ _ ?_ ?_ _) <;> decide))); (try simp only [Act.put, List.setIfInBounds_toArray, List.set_cons_zero, List.set_cons_succ]))
    refine wpQuiet_nil ?_
    intro wq hq
    replace hB := From.trans hB hq
    go_wp2
    go_ret
    exact ⟨ret_bool (by simp), hB⟩
end Go.Proofs.Ytemnppfdoicmpaa
