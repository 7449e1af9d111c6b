/- Contracts of expand: what a match remembers; the end of a line; what is said of letters. -/
import Derived.Test.YtalgdihaeglleaaExpA
import Derived.Test.YtalgdihaeglleaaQuiet
namespace Go.Proofs.Ytalgdihaeglleaa
open Go.RowKit

/-- The cells of a match: 22 numbers; groups' beginnings from 2 on, their ends from 12 on. -/
structure IsMatch (cs : Array Value) (mb me : Nat → Int) : Prop where
  size : cs.size = 22
  b : ∀ j, j < 10 → cs[2 + j]? = some (.int .i64 (mb j))
  e : ∀ j, j < 10 → cs[12 + j]? = some (.int .i64 (me j))

def groupB (s : ByteArray) (mb me : Nat → Int) (n : Int) : ByteArray :=
  if n < 0 ∨ 9 < n then ⟨#[]⟩ else if mb n.toNat < 0 ∨ me n.toNat < mb n.toNat ∨ (s.size : Int) < me n.toNat then ⟨#[]⟩ else s.extract (mb n.toNat).toNat (me n.toNat).toNat

theorem ret_str {a b : ByteArray} (h : a = b) : Ending.returned (.string a) = .returned (.string b) := by rw [h]

theorem group_any (s : ByteArray) (cs : Array Value) (mb me : Nat → Int) (n : Int) (w : World) (hm : IsMatch cs mb me) (hs : s.size ≤ maxLen) :
    Calls Try.prog 14 #[.string s, .agg cs, .int .i64 n] w fun e w' => e = .returned (.string (groupB s mb me n)) ∧ Below w.heap.size w w' := by
  unfold maxLen at hs
  by_cases h0 : n < 0
  · go_enter Try.func14, Try.ntmps14
    go_wp2
    go_ret
    exact ⟨ret_str (by simp [groupB, h0]), by (repeat (first | exact Below.refl _ _ | assumption | refine Below.drew ?_ | refine Below.alloc ?_ (by first | exact Nat.le_refl _ | omega | (simp; done) | (simp; omega)) _ | refine Below.setCell ?_ (by first | exact Nat.le_refl _ | omega | (simp; done) | (simp; omega)) _))⟩
  · by_cases h9 : 9 < n
    · go_enter Try.func14, Try.ntmps14
      go_wp2
      go_ret
      exact ⟨ret_str (by simp [groupB, h9]), by (repeat (first | exact Below.refl _ _ | assumption | refine Below.drew ?_ | refine Below.alloc ?_ (by first | exact Nat.le_refl _ | omega | (simp; done) | (simp; omega)) _ | refine Below.setCell ?_ (by first | exact Nat.le_refl _ | omega | (simp; done) | (simp; omega)) _))⟩
    · obtain ⟨j, rfl⟩ := Int.eq_ofNat_of_zero_le (by omega : 0 ≤ n)
      have hj : j < 10 := by omega
      have e1 := hm.b j hj
      have e2 := hm.e j hj
      have c1 : (w.alloc (.cells cs 25)).cell? ⟨w.heap.size, 2 + j, none⟩ = some (.int .i64 (mb j)) := by rw [World.cell?_alloc_at _ _ _ _ rfl]; exact e1
      have c2 : (w.alloc (.cells cs 25)).cell? ⟨w.heap.size, 12 + j, none⟩ = some (.int .i64 (me j)) := by rw [World.cell?_alloc_at _ _ _ _ rfl]; exact e2
      have hg : groupB s mb me (j : Int) = if mb j < 0 ∨ me j < mb j ∨ (s.size : Int) < me j then ⟨#[]⟩ else s.extract (mb j).toNat (me j).toNat := by
        unfold groupB; rw [if_neg (by omega)]; simp
      have Hg := Lib.hid hg; clear hg
      generalize mb j = x at *
      generalize me j = y at *
      have hj0 : (0 : Int) ≤ (j : Int) := by omega
      have hj1 : (j : Int) < 10 := by omega
      clear e1 e2 hm h0 h9 hj
      go_enter Try.func14, Try.ntmps14
      go_wp2
      have hB : From w (w.alloc (.cells cs 25)) := (Below.refl _ _).alloc (Nat.le_refl _) _
      generalize w.alloc (.cells cs 25) = W at *
      first | (refine wp_region_from_still ?_) | (refine wp_region_from (by kernel_rfl) (by kernel_rfl) ?_)
      repeat
        first
          | ((refine wpQ_skip (by rfl) ?_); (try simp only [Act.put, List.setIfInBounds_toArray, List.set_cons_zero, List.set_cons_succ]))
          | (apply wpQ_val (by rfl); (focus (intro w' hC; (have g1 := From.cell hC c1; have g2 := From.cell hC c2); go_simp; (first | done | exact rfl))); (try simp only [Act.put, List.setIfInBounds_toArray, List.set_cons_zero, List.set_cons_succ]))
          | (apply wpQ_call (by rfl); (focus (intro w' hC; go_simp; (first | done | exact rfl | exact ⟨rfl, rfl⟩))); (focus (intro w' hC; first | fail)); (try simp only [Act.put, List.setIfInBounds_toArray, List.set_cons_zero, List.set_cons_succ]))
      refine wpQuiet_nil ?_
      intro wq hq
      have hB2 := From.call hB hq
      go_wp2
      all_goals go_ret
      all_goals refine ⟨ret_str ?_, hB2⟩
      all_goals rw [Hg.out]
      all_goals first | (rw [if_pos (by omega)]; done) | (rw [if_neg (by omega)]; done) | skip
end Go.Proofs.Ytalgdihaeglleaa
