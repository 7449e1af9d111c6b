/- The walks of the laws KindHas, KindWith. -/
import Derived.Test.YtemnppfdoicmpaaKindKnown
import Derived.Test.YtemnppfdoicmpaaSetLaw
import Derived.Test.YtemnppfdoicmpaaOpen
import Derived.Test.YtemnppfdoicmpaaQuiet
import Derived.Deep.RegionHeld3
namespace Go.Proofs.Ytemnppfdoicmpaa
open Go.RowKit

theorem eqlS (w : World) (a0 a1 a2 a3 b0 b1 b2 b3 : Int) :
    (Op.equalIn 10000 29 (.agg #[.int .u64 a0, .int .u64 a1, .int .u64 a2, .int .u64 a3]) (.agg #[.int .u64 b0, .int .u64 b1, .int .u64 b2, .int .u64 b3])).run Try.prog w = .ok (a0 == b0 && a1 == b1 && a2 == b2 && a3 == b3) w := by
  have h : (Try.prog.info? 27).isSome = true := by kernel_rfl
  obtain ⟨i, hi⟩ := Option.isSome_iff_exists.1 h
  exact eqIn_set4 w a0 a1 a2 a3 b0 b1 b2 b3 Try.underlying29 hi Try.underlying27 (by kernel_rfl) (by kernel_rfl)
attribute [local go_sem] eqlS

theorem toNat4 {a : Int} (h : InB a) : ∃ n : Nat, a = (n : Int) ∧ n < 18446744073709551616 := ⟨a.toNat, by have := h.1; omega, by have := h.1; have := h.2; omega⟩

theorem has_rhas {a0 a1 a2 a3 c : Int} (h : In4 a0 a1 a2 a3) (h0 : 0 ≤ c) : rhasB a0 a1 a2 a3 c = hasB a0 a1 a2 a3 c := by
  obtain ⟨n0, rfl, l0⟩ := toNat4 h.1
  obtain ⟨n1, rfl, l1⟩ := toNat4 h.2.1
  obtain ⟨n2, rfl, l2⟩ := toNat4 h.2.2.1
  obtain ⟨n3, rfl, l3⟩ := toNat4 h.2.2.2
  obtain ⟨m, rfl⟩ := Int.eq_ofNat_of_zero_le h0
  rw [rhasB_nat _ _ _ _ _ l0 l1 l2 l3, hasB_nat _ _ _ _ _ l0 l1 l2 l3]

theorem Four.from {W w : World} {b : Nat} {a0 a1 a2 a3 : Int} (h : Four W b a0 a1 a2 a3) (hq : From W w) : Four w b a0 a1 a2 a3 :=
  h.below hq (World.block_lt_of_cell? W _ h.c0)

theorem Four.new {w : World} {a0 a1 a2 a3 : Int} {T : TypeId} : Four (w.alloc (.cells #[.int .u64 a0, .int .u64 a1, .int .u64 a2, .int .u64 a3] T)) w.heap.size a0 a1 a2 a3 := by
  constructor <;> go_simp
theorem From.new {w : World} {o : Obj} : From w (w.alloc o) := (Below.refl _ _).alloc (Nat.le_refl _) _

theorem From.trans {a b c : World} (h : From a b) (k : From b c) : From a c := From.call h k

theorem kindHas_law (a0 a1 a2 a3 : Int) (ha : In4 a0 a1 a2 a3) (b0 b1 b2 b3 : Int) (_hb : In4 b0 b1 b2 b3) (c : Int) (c0 : 0 ≤ c) (c1 : c ≤ 255) (d : Int) (d0 : 0 ≤ d) (d1 : d ≤ 255) (w : World) :
    Calls Try.prog 7 #[.agg #[.int .u64 a0, .int .u64 a1, .int .u64 a2, .int .u64 a3], .agg #[.int .u64 b0, .int .u64 b1, .int .u64 b2, .int .u64 b3], .int .u8 c, .int .u8 d] w fun e w' => e = .returned (.bool true) ∧ Below w.heap.size w w' := by
  have hr := has_rhas (c := d) ha d0
  go_enter Try.func7, Try.ntmps7
  go_wp2_with fail
  refine (With_any _ _ _ _ _ c0 c1 _).mono ?_
  rintro e w1 ⟨rfl, hb1⟩
  have hs1 := hb1.size
  simp only [World.size_alloc] at hs1 hb1
  have hF : Four w1 w.heap.size a0 a1 a2 a3 ∧ Four w1 (w.heap.size + 1) b0 b1 b2 b3 := by
    constructor
    · refine Four.below (W := ((w.alloc (.cells #[.int .u64 a0, .int .u64 a1, .int .u64 a2, .int .u64 a3] 29)).alloc (.cells #[.int .u64 b0, .int .u64 b1, .int .u64 b2, .int .u64 b3] 29))) ?_ hb1 (by omega)
      constructor <;> go_simp
    · refine Four.below (W := ((w.alloc (.cells #[.int .u64 a0, .int .u64 a1, .int .u64 a2, .int .u64 a3] 29)).alloc (.cells #[.int .u64 b0, .int .u64 b1, .int .u64 b2, .int .u64 b3] 29))) ?_ hb1 (by omega)
      constructor <;> go_simp
  have hB : Below w.heap.size w w1 := by
    refine Below.trans (b := (w.alloc (.cells #[.int .u64 a0, .int .u64 a1, .int .u64 a2, .int .u64 a3] 29)).alloc (.cells #[.int .u64 b0, .int .u64 b1, .int .u64 b2, .int .u64 b3] 29)) ?_ (hb1.mono (by omega))
    (repeat (first | exact Below.refl _ _ | assumption | refine Below.drew ?_ | refine Below.alloc ?_ (by first | exact Nat.le_refl _ | omega | (simp; done) | (simp; omega)) _ | refine Below.setCell ?_ (by first | exact Nat.le_refl _ | omega | (simp; done) | (simp; omega)) _))
  clear hb1
  obtain ⟨hFa, hFb⟩ := hF
  go_wp2_with fail
  have hB1 : Below w.heap.size w (w1.alloc (Obj.cells #[Value.int IntKind.u64 (withJ 0 a0 c), Value.int IntKind.u64 (withJ 1 a1 c), Value.int IntKind.u64 (withJ 2 a2 c), Value.int IntKind.u64 (withJ 3 a3 c)] 29)) := by (repeat (first | exact Below.refl _ _ | assumption | refine Below.drew ?_ | refine Below.alloc ?_ (by first | exact Nat.le_refl _ | omega | (simp; done) | (simp; omega)) _ | refine Below.setCell ?_ (by first | exact Nat.le_refl _ | omega | (simp; done) | (simp; omega)) _))
  have f0 : Four (w1.alloc (Obj.cells #[Value.int IntKind.u64 (withJ 0 a0 c), Value.int IntKind.u64 (withJ 1 a1 c), Value.int IntKind.u64 (withJ 2 a2 c), Value.int IntKind.u64 (withJ 3 a3 c)] 29)) w.heap.size a0 a1 a2 a3 := hFa.from ((Below.refl _ _).alloc (Nat.le_refl _) _)
  have f2 : Four (w1.alloc (Obj.cells #[Value.int IntKind.u64 (withJ 0 a0 c), Value.int IntKind.u64 (withJ 1 a1 c), Value.int IntKind.u64 (withJ 2 a2 c), Value.int IntKind.u64 (withJ 3 a3 c)] 29)) (w.heap.size + 1) b0 b1 b2 b3 := hFb.from ((Below.refl _ _).alloc (Nat.le_refl _) _)
  have f1 : Four (w1.alloc (Obj.cells #[Value.int IntKind.u64 (withJ 0 a0 c), Value.int IntKind.u64 (withJ 1 a1 c), Value.int IntKind.u64 (withJ 2 a2 c), Value.int IntKind.u64 (withJ 3 a3 c)] 29)) w1.heap.size (withJ 0 a0 c) (withJ 1 a1 c) (withJ 2 a2 c) (withJ 3 a3 c) := by constructor <;> go_simp
  clear hFa hFb
  generalize w1.alloc (Obj.cells #[Value.int IntKind.u64 (withJ 0 a0 c), Value.int IntKind.u64 (withJ 1 a1 c), Value.int IntKind.u64 (withJ 2 a2 c), Value.int IntKind.u64 (withJ 3 a3 c)] 29) = W at *
  first | (refine wp_region_from_still ?_) | (refine wp_region_from (by kernel_rfl) (by kernel_rfl) ?_)
  repeat
    first
      | ((refine wpQ_skip (by rfl) ?_); (try simp only [Act.put, List.setIfInBounds_toArray, List.set_cons_zero, List.set_cons_succ]))
      | (apply wpQ_val (by rfl); (focus (intro w' hC; (have e0 := From.cell hC f0.c0; have e1 := From.cell hC f0.c1; have e2 := From.cell hC f0.c2; have e3 := From.cell hC f0.c3; have e4 := From.cell hC f1.c0; have e5 := From.cell hC f1.c1; have e6 := From.cell hC f1.c2; have e7 := From.cell hC f1.c3); go_simp; (first | done | exact rfl))); (try simp only [Act.put, List.setIfInBounds_toArray, List.set_cons_zero, List.set_cons_succ]))
      | (apply wpQ_call (by rfl); (focus (intro w' hC; go_simp; (first | done | exact rfl | exact ⟨rfl, rfl⟩))); (focus (intro w' hC; first | (with_reducible refine From.of_calls hC (Has_any _ _ _ _ _ ?_ ?_ _) <;> assumption) | (with_reducible refine From.of_calls hC (rHas_any _ _ _ _ _ ?_ ?_ _) <;> assumption) | (with_reducible refine From.of_calls hC (rWith_any _ _ _ _ _ ?_ ?_ _) <;> assumption))); (try simp only [Act.put, List.setIfInBounds_toArray, List.set_cons_zero, List.set_cons_succ]))
  refine wpQuiet_nil ?_
  intro wq hq
  have hB2 := hB1.trans (hq.mono hB1.size)
  have f3 := f0.from hq
  have f4 := f2.from hq
  clear f0 f1 f2 hq
  go_wp2_with fail
  first | (refine wp_region_from_still ?_) | (refine wp_region_from (by kernel_rfl) (by kernel_rfl) ?_)
  repeat
    first
      | ((refine wpQ_skip (by rfl) ?_); (try simp only [Act.put, List.setIfInBounds_toArray, List.set_cons_zero, List.set_cons_succ]))
      | (apply wpQ_val (by rfl); (focus (intro w' hC; (have e0 := From.cell hC f3.c0; have e1 := From.cell hC f3.c1; have e2 := From.cell hC f3.c2; have e3 := From.cell hC f3.c3; have e4 := From.cell hC f4.c0; have e5 := From.cell hC f4.c1; have e6 := From.cell hC f4.c2; have e7 := From.cell hC f4.c3); go_simp; (first | done | exact rfl))); (try simp only [Act.put, List.setIfInBounds_toArray, List.set_cons_zero, List.set_cons_succ]))
      | (apply wpQ_call (by rfl); (focus (intro w' hC; go_simp; (first | done | exact rfl | exact ⟨rfl, rfl⟩))); (focus (intro w' hC; first | (with_reducible exact From.of_same hC (kknown_any _)) | (with_reducible exact From.of_calls hC (Not_any _ _ _ _ _)) | (with_reducible exact From.of_calls hC (rNot_any _ _ _ _ _)) | (with_reducible exact From.of_calls hC (Both_any _ _ _ _ _ _ _ _ _)) | (with_reducible exact From.of_calls hC (rBoth_any _ _ _ _ _ _ _ _ _)))); (try simp only [Act.put, List.setIfInBounds_toArray, List.set_cons_zero, List.set_cons_succ]))
  refine wpQuiet_nil ?_
  intro wq hq
  have hB3 := hB2.trans (hq.mono hB2.size)
  go_wp2
  go_ret
  exact ⟨rfl, hB3⟩
theorem selN_or {n0 n1 n2 n3 m0 m1 m2 m3 c : Nat} : selN (n0 ||| m0) (n1 ||| m1) (n2 ||| m2) (n3 ||| m3) c = selN n0 n1 n2 n3 c ||| selN m0 m1 m2 m3 c := by
  unfold selN; repeat' split
  all_goals rfl

theorem has_with {a0 a1 a2 a3 c d : Int} (h : In4 a0 a1 a2 a3) (h0 : 0 ≤ c) (h1 : c ≤ 255) (g0 : 0 ≤ d) (g1 : d ≤ 255) :
    hasB (withJ 0 a0 c) (withJ 1 a1 c) (withJ 2 a2 c) (withJ 3 a3 c) d = (hasB a0 a1 a2 a3 d || c == d) := by
  obtain ⟨n0, rfl, l0⟩ := toNat4 h.1
  obtain ⟨n1, rfl, l1⟩ := toNat4 h.2.1
  obtain ⟨n2, rfl, l2⟩ := toNat4 h.2.2.1
  obtain ⟨n3, rfl, l3⟩ := toNat4 h.2.2.2
  obtain ⟨m, rfl⟩ := Int.eq_ofNat_of_zero_le h0
  obtain ⟨k, rfl⟩ := Int.eq_ofNat_of_zero_le g0
  have e0 := withJ_nat 0 n0 m l0
  have e1 := withJ_nat 1 n1 m l1
  have e2 := withJ_nat 2 n2 m l2
  have e3 := withJ_nat 3 n3 m l3
  simp only [Int.natCast_zero, Int.natCast_one] at e0 e1
  rw [e0, e1, show (2 : Int) = ((2 : Nat) : Int) from rfl, e2, show (3 : Int) = ((3 : Nat) : Int) from rfl, e3, hasB_nat _ _ _ _ _ (wN_lt l0) (wN_lt l1) (wN_lt l2) (wN_lt l3), hasB_nat _ _ _ _ _ l0 l1 l2 l3]
  have hm : k % 64 < 64 := Nat.mod_lt _ (by omega)
  have hb : ((m : Int) == (k : Int)) = decide (m = k) := by rw [Bool.eq_iff_iff]; simp; omega
  rw [hb]
  have key : ∀ j n, k / 64 = j → (wN j n m).testBit (k % 64) = (n.testBit (k % 64) || decide (m = k)) := by
    intro j n hj
    rw [wN_bit hm]
    congr 1
    simp only [decide_eq_decide]; omega
  unfold selN
  repeat' split
  · exact key 0 _ (by omega)
  · exact key 1 _ (by omega)
  · exact key 2 _ (by omega)
  · exact key 3 _ (by omega)

theorem has_both {a0 a1 a2 a3 b0 b1 b2 b3 d : Int} (h : In4 a0 a1 a2 a3) (h' : In4 b0 b1 b2 b3) (g0 : 0 ≤ d) :
    hasB (bothI a0 b0) (bothI a1 b1) (bothI a2 b2) (bothI a3 b3) d = (hasB a0 a1 a2 a3 d || hasB b0 b1 b2 b3 d) := by
  obtain ⟨n0, rfl, l0⟩ := toNat4 h.1
  obtain ⟨n1, rfl, l1⟩ := toNat4 h.2.1
  obtain ⟨n2, rfl, l2⟩ := toNat4 h.2.2.1
  obtain ⟨n3, rfl, l3⟩ := toNat4 h.2.2.2
  obtain ⟨m0, rfl, k0⟩ := toNat4 h'.1
  obtain ⟨m1, rfl, k1⟩ := toNat4 h'.2.1
  obtain ⟨m2, rfl, k2⟩ := toNat4 h'.2.2.1
  obtain ⟨m3, rfl, k3⟩ := toNat4 h'.2.2.2
  obtain ⟨k, rfl⟩ := Int.eq_ofNat_of_zero_le g0
  rw [bothI_nat _ _ l0 k0, bothI_nat _ _ l1 k1, bothI_nat _ _ l2 k2, bothI_nat _ _ l3 k3, hasB_nat _ _ _ _ _ (or_lt l0 k0) (or_lt l1 k1) (or_lt l2 k2) (or_lt l3 k3), hasB_nat _ _ _ _ _ l0 l1 l2 l3, hasB_nat _ _ _ _ _ k0 k1 k2 k3, selN_or, Nat.testBit_or]

theorem not_not {a : Int} (h : InB a) : notI (notI a) = a := by
  obtain ⟨n, rfl, l⟩ := toNat4 h
  rw [notI_nat _ l, notI_nat _ (xor_lt (by omega) l)]
  congr 1
  rw [← Nat.xor_assoc, Nat.xor_self, Nat.zero_xor]

theorem kindWith_law (a0 a1 a2 a3 : Int) (ha : In4 a0 a1 a2 a3) (b0 b1 b2 b3 : Int) (hb : In4 b0 b1 b2 b3) (c : Int) (c0 : 0 ≤ c) (c1 : c ≤ 255) (d : Int) (d0 : 0 ≤ d) (d1 : d ≤ 255) (w : World) :
    Calls Try.prog 8 #[.agg #[.int .u64 a0, .int .u64 a1, .int .u64 a2, .int .u64 a3], .agg #[.int .u64 b0, .int .u64 b1, .int .u64 b2, .int .u64 b3], .int .u8 c, .int .u8 d] w fun e w' => e = .returned (.bool true) ∧ Below w.heap.size w w' := by
  have n0 := not_not ha.1
  have n1 := not_not ha.2.1
  have n2 := not_not ha.2.2.1
  have n3 := not_not ha.2.2.2
  have hu1 := has_with ha c0 c1 c0 c1
  have hu2 := has_with ha c0 c1 d0 d1
  have hu3 := has_both ha hb d0
  rw [beq_self_eq_true, Bool.or_true] at hu1
  go_enter Try.func8, Try.ntmps8
  go_wp2_with fail
  refine (With_any _ _ _ _ _ c0 c1 _).mono ?_
  rintro e w1 ⟨rfl, hb1⟩
  have hs1 := hb1.size
  simp only [World.size_alloc] at hs1 hb1
  have hFa : Four w1 w.heap.size a0 a1 a2 a3 := by
    refine Four.below (W := ((w.alloc (.cells #[.int .u64 a0, .int .u64 a1, .int .u64 a2, .int .u64 a3] 29)).alloc (.cells #[.int .u64 b0, .int .u64 b1, .int .u64 b2, .int .u64 b3] 29))) ?_ hb1 (by omega)
    constructor <;> go_simp
  have hFb : Four w1 (w.heap.size + 1) b0 b1 b2 b3 := by
    refine Four.below (W := ((w.alloc (.cells #[.int .u64 a0, .int .u64 a1, .int .u64 a2, .int .u64 a3] 29)).alloc (.cells #[.int .u64 b0, .int .u64 b1, .int .u64 b2, .int .u64 b3] 29))) ?_ hb1 (by omega)
    constructor <;> go_simp
  have hB : Below w.heap.size w w1 := by
    refine Below.trans (b := ((w.alloc (.cells #[.int .u64 a0, .int .u64 a1, .int .u64 a2, .int .u64 a3] 29)).alloc (.cells #[.int .u64 b0, .int .u64 b1, .int .u64 b2, .int .u64 b3] 29))) ?_ (hb1.mono (by omega))
    (repeat (first | exact Below.refl _ _ | assumption | refine Below.drew ?_ | refine Below.alloc ?_ (by first | exact Nat.le_refl _ | omega | (simp; done) | (simp; omega)) _ | refine Below.setCell ?_ (by first | exact Nat.le_refl _ | omega | (simp; done) | (simp; omega)) _))
  clear hb1
  have hB1 : Below w.heap.size w (w1.alloc (Obj.cells #[Value.int IntKind.u64 (withJ 0 a0 c), Value.int IntKind.u64 (withJ 1 a1 c), Value.int IntKind.u64 (withJ 2 a2 c), Value.int IntKind.u64 (withJ 3 a3 c)] 29)) := by (repeat (first | exact Below.refl _ _ | assumption | refine Below.drew ?_ | refine Below.alloc ?_ (by first | exact Nat.le_refl _ | omega | (simp; done) | (simp; omega)) _ | refine Below.setCell ?_ (by first | exact Nat.le_refl _ | omega | (simp; done) | (simp; omega)) _))
  have f0 : Four (w1.alloc (Obj.cells #[Value.int IntKind.u64 (withJ 0 a0 c), Value.int IntKind.u64 (withJ 1 a1 c), Value.int IntKind.u64 (withJ 2 a2 c), Value.int IntKind.u64 (withJ 3 a3 c)] 29)) w.heap.size a0 a1 a2 a3 := hFa.from ((Below.refl _ _).alloc (Nat.le_refl _) _)
  have f2 : Four (w1.alloc (Obj.cells #[Value.int IntKind.u64 (withJ 0 a0 c), Value.int IntKind.u64 (withJ 1 a1 c), Value.int IntKind.u64 (withJ 2 a2 c), Value.int IntKind.u64 (withJ 3 a3 c)] 29)) (w.heap.size + 1) b0 b1 b2 b3 := hFb.from ((Below.refl _ _).alloc (Nat.le_refl _) _)
  have f1 : Four (w1.alloc (Obj.cells #[Value.int IntKind.u64 (withJ 0 a0 c), Value.int IntKind.u64 (withJ 1 a1 c), Value.int IntKind.u64 (withJ 2 a2 c), Value.int IntKind.u64 (withJ 3 a3 c)] 29)) w1.heap.size (withJ 0 a0 c) (withJ 1 a1 c) (withJ 2 a2 c) (withJ 3 a3 c) := by constructor <;> go_simp
  clear hFa hFb
  have pa := f0
  have pb := f2
  obtain ⟨x0, x1, x2, x3, _, _, _, _⟩ := pa
  obtain ⟨y0, y1, y2, y3, _, _, _, _⟩ := pb
  go_wp2_with fail
  clear x0 x1 x2 x3 y0 y1 y2 y3
  generalize w1.alloc (Obj.cells #[Value.int IntKind.u64 (withJ 0 a0 c), Value.int IntKind.u64 (withJ 1 a1 c), Value.int IntKind.u64 (withJ 2 a2 c), Value.int IntKind.u64 (withJ 3 a3 c)] 29) = W at *
  refine (Both_any _ _ _ _ _ _ _ _ _).mono ?_
  rintro e w2 ⟨rfl, hb2⟩
  have hB2 := hB1.trans (hb2.mono hB1.size)
  have f3 := f0.from hb2
  have f4 := f1.from hb2
  have f5 := f2.from hb2
  clear f0 f1 f2 hb2
  go_wp2_with fail
  have hB3 : Below w.heap.size w (w2.alloc (Obj.cells #[Value.int IntKind.u64 (bothI a0 b0), Value.int IntKind.u64 (bothI a1 b1), Value.int IntKind.u64 (bothI a2 b2), Value.int IntKind.u64 (bothI a3 b3)] 29)) := hB2.trans ((Below.refl _ _).alloc hB2.size _)
  have f0 := f3.from (w := w2.alloc (Obj.cells #[Value.int IntKind.u64 (bothI a0 b0), Value.int IntKind.u64 (bothI a1 b1), Value.int IntKind.u64 (bothI a2 b2), Value.int IntKind.u64 (bothI a3 b3)] 29)) ((Below.refl _ _).alloc (Nat.le_refl _) _)
  have f1 := f4.from (w := w2.alloc (Obj.cells #[Value.int IntKind.u64 (bothI a0 b0), Value.int IntKind.u64 (bothI a1 b1), Value.int IntKind.u64 (bothI a2 b2), Value.int IntKind.u64 (bothI a3 b3)] 29)) ((Below.refl _ _).alloc (Nat.le_refl _) _)
  have f2 := f5.from (w := w2.alloc (Obj.cells #[Value.int IntKind.u64 (bothI a0 b0), Value.int IntKind.u64 (bothI a1 b1), Value.int IntKind.u64 (bothI a2 b2), Value.int IntKind.u64 (bothI a3 b3)] 29)) ((Below.refl _ _).alloc (Nat.le_refl _) _)
  have f6 : Four (w2.alloc (Obj.cells #[Value.int IntKind.u64 (bothI a0 b0), Value.int IntKind.u64 (bothI a1 b1), Value.int IntKind.u64 (bothI a2 b2), Value.int IntKind.u64 (bothI a3 b3)] 29)) w2.heap.size (bothI a0 b0) (bothI a1 b1) (bothI a2 b2) (bothI a3 b3) := by constructor <;> go_simp
  clear f3 f4 f5
  generalize w2.alloc (Obj.cells #[Value.int IntKind.u64 (bothI a0 b0), Value.int IntKind.u64 (bothI a1 b1), Value.int IntKind.u64 (bothI a2 b2), Value.int IntKind.u64 (bothI a3 b3)] 29) = W at *
  cases hs : hasB a0 a1 a2 a3 d
  all_goals
    rw [hs] at hu2 hu3
    simp only [Bool.true_or, Bool.false_or] at hu2 hu3
    first | (refine wp_region_from_still ?_) | (refine wp_region_from (by kernel_rfl) (by kernel_rfl) ?_)
    repeat
      first
        | ((refine wpQ_skip (by rfl) ?_); (try simp only [Act.put, List.setIfInBounds_toArray, List.set_cons_zero, List.set_cons_succ]))
        | (apply wpQ_val (by rfl); (focus (intro w' hC; (have e00 := From.cell hC f0.c0; have e01 := From.cell hC f0.c1; have e02 := From.cell hC f0.c2; have e03 := From.cell hC f0.c3; have e10 := From.cell hC f1.c0; have e11 := From.cell hC f1.c1; have e12 := From.cell hC f1.c2; have e13 := From.cell hC f1.c3; have e20 := From.cell hC f2.c0; have e21 := From.cell hC f2.c1; have e22 := From.cell hC f2.c2; have e23 := From.cell hC f2.c3; have e30 := From.cell hC f6.c0; have e31 := From.cell hC f6.c1; have e32 := From.cell hC f6.c2; have e33 := From.cell hC f6.c3); go_simp; (first | done | exact rfl))); (try simp only [Act.put, List.setIfInBounds_toArray, List.set_cons_zero, List.set_cons_succ]))
        | (apply wpQ_call (by rfl); (focus (intro w' hC; go_simp; (first | done | exact rfl | exact ⟨rfl, rfl⟩))); (focus (intro w' hC; first | (with_reducible exact From.of_same hC (kknown_any _)) | (with_reducible exact From.of_calls hC (Not_any _ _ _ _ _)) | (with_reducible refine From.of_calls hC (Has_any _ _ _ _ _ ?_ ?_ _) <;> assumption))); (try simp only [Act.put, List.setIfInBounds_toArray, List.set_cons_zero, List.set_cons_succ]))
    refine wpQuiet_nil ?_
    intro wq hq
    have hB4 := hB3.trans (hq.mono hB3.size)
    go_wp2
    go_ret
    exact ⟨rfl, hB4⟩
end Go.Proofs.Ytemnppfdoicmpaa

