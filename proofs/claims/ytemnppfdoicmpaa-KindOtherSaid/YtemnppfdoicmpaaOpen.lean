/- Opening an array of four unsigned words that came in by value. -/
import Derived.WalkKit
import Derived.ProofKit
import Derived.OpenShut
import Derived.Lib.SmallJoins
namespace Go.Proofs.Ytemnppfdoicmpaa
open Go.ChangeShapes Go.WideShapes Go.ChangeAt Go.RowKit

theorem okWide_arr {P : Program} {w : World} {r : Reach} {base : Nat} {t e : TypeId} {n : Nat} {v : Value} (ht : P.underlying t = some (.array n e)) (h : Value.okWide P w r base t v) : ∃ cs, v = .agg cs ∧ cs.size = P.cellsOf t := by
  simp only [Value.okWide, ht] at h
  obtain ⟨cs, h1, h2, _⟩ := h
  exact ⟨cs, h1, h2⟩

/-- Four words, each in its bounds. -/
def InB (a : Int) : Prop := 0 ≤ a ∧ a ≤ 18446744073709551615
def In4 (a0 a1 a2 a3 : Int) : Prop := InB a0 ∧ InB a1 ∧ InB a2 ∧ InB a3

theorem inB_of {a : Int} (w : (Lit.int .u64 a).wf = true) : InB a := by
  unfold InB
  simpa [Lit.wf, IntKind.min, IntKind.max, IntKind.signed, IntKind.bits] using w

theorem open_set4 {H : Type} {enc : TypeId × Value → H} {P : Program} {w : World} {base : Nat} {spare : Nat → Bool} {held : Bool} {r : Reach} {b0 : Nat} {t e : TypeId} {v : Value} {d : DataW H} {p : List MemPlace}
    (ht : P.underlying t = some (.array 4 e)) (he : P.underlying e = some (.int .u64)) (hc : P.cellsOf e = 1 ∧ P.cellsOf t = 4) (hv : Value.okWide P w r b0 t v) (h : DataW.Trod enc P w base spare held t v d p) :
    ∃ a0 a1 a2 a3, v = .agg #[.int .u64 a0, .int .u64 a1, .int .u64 a2, .int .u64 a3] ∧ In4 a0 a1 a2 a3 := by
  obtain ⟨cs, rfl, hsz⟩ := okWide_arr ht hv
  obtain ⟨c0, c1, c2, c3, rfl⟩ := Joins.array4 (hsz.trans hc.2)
  obtain ⟨fuel, hf⟩ := h
  obtain ⟨xs, m, _, hx, _, hl, hi⟩ := DataW.trod_array ht hf
  have key : ∀ (i : Nat) (c : Value), i < 4 → ([c0, c1, c2, c3].drop (i * P.cellsOf e)).take (P.cellsOf e) = [c] → ∃ a, c = .int .u64 a ∧ InB a := by
    intro i c h4 hcs
    have hii := hi i h4
    simp only [Value.cells] at hii
    rw [hcs] at hii
    have hlt : i < xs.length := by omega
    rw [List.getElem?_eq_getElem hlt] at hii
    obtain ⟨a, e0, _, wa⟩ := DataW.trod_int he hii
    simp only [List.cons.injEq, and_true] at e0
    exact ⟨a, e0, inB_of wa⟩
  obtain ⟨a0, rfl, w0⟩ := key 0 c0 (by omega) (by rw [hc.1]; rfl)
  obtain ⟨a1, rfl, w1⟩ := key 1 c1 (by omega) (by rw [hc.1]; rfl)
  obtain ⟨a2, rfl, w2⟩ := key 2 c2 (by omega) (by rw [hc.1]; rfl)
  obtain ⟨a3, rfl, w3⟩ := key 3 c3 (by omega) (by rw [hc.1]; rfl)
  exact ⟨a0, a1, a2, a3, rfl, w0, w1, w2, w3⟩

/-- An array of four words against another. -/
theorem eqIn_set4 {P : Program} {t e : TypeId} {i : TypeInfo} (w : World) (a0 a1 a2 a3 b0 b1 b2 b3 : Int) (ht : P.underlying t = some (.array 4 e)) (hi : P.info? e = some i) (he : P.underlying e = some (.int .u64)) (hk : P.plainKey e = true) (hc : P.cellsOf e = 1) :
    (Op.equalIn 10000 t (.agg #[.int .u64 a0, .int .u64 a1, .int .u64 a2, .int .u64 a3]) (.agg #[.int .u64 b0, .int .u64 b1, .int .u64 b2, .int .u64 b3])).run P w = .ok (a0 == b0 && a1 == b1 && a2 == b2 && a3 == b3) w := by
  have hp : ∀ (xs : Array Value) (j : Nat) (v : Value) (w : World), xs[j]? = some v → (part e xs j).run P w = .ok v w := fun xs j v w h => run_part_plain w hk h
  have h4 : List.range 4 = [0, 1, 2, 3] := rfl
  have hq : ∀ (x y : Int) (w : World), (Op.equalIn 9999 e (.int .u64 x) (.int .u64 y)).run P w = .ok (x == y) w := fun x y w => run_equalIn_int w 9998 e .u64 .u64 x y he
  rw [run_equalIn_array w 9999 _ _ ht hi, h4, hc]
  simp only [Op.eqItems, Sem.run_bind, Nat.mul_one]
  rw [hp _ 0 _ _ (rfl : _ = some (Value.int .u64 a0)), Result.andThen_ok, hp _ 0 _ _ (rfl : _ = some (Value.int .u64 b0)), Result.andThen_ok, hq, Result.andThen_ok]
  cases h0 : a0 == b0
  · simp
  simp only [Bool.not_true, Bool.false_eq_true, if_false, Sem.run_bind]
  rw [hp _ 1 _ _ (rfl : _ = some (Value.int .u64 a1)), Result.andThen_ok, hp _ 1 _ _ (rfl : _ = some (Value.int .u64 b1)), Result.andThen_ok, hq, Result.andThen_ok]
  cases h1 : a1 == b1
  · simp
  simp only [Bool.not_true, Bool.false_eq_true, if_false, Sem.run_bind]
  rw [hp _ 2 _ _ (rfl : _ = some (Value.int .u64 a2)), Result.andThen_ok, hp _ 2 _ _ (rfl : _ = some (Value.int .u64 b2)), Result.andThen_ok, hq, Result.andThen_ok]
  cases h2 : a2 == b2
  · simp
  simp only [Bool.not_true, Bool.false_eq_true, if_false, Sem.run_bind]
  rw [hp _ 3 _ _ (rfl : _ = some (Value.int .u64 a3)), Result.andThen_ok, hp _ 3 _ _ (rfl : _ = some (Value.int .u64 b3)), Result.andThen_ok, hq, Result.andThen_ok]
  cases h3 : a3 == b3
  all_goals simp
end Go.Proofs.Ytemnppfdoicmpaa
