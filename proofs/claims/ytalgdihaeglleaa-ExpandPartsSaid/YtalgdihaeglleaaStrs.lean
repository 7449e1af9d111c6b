/- Contract of Same of the document's answer: two slices of strings, one by one. -/
import Derived.Test.YtalgdihaeglleaaMem
import Derived.Test.YtalgdihaeglleaaQuiet
import Derived.Test.YtalgdihaeglleaaPlain
import Derived.Test.YtalgdihaeglleaaProg
namespace Go.Proofs.Ytalgdihaeglleaa
open Go.RowKit

/-- Strings in memory. -/
def StrsAt (w : World) (v : Value) (xs : List (List UInt8)) : Prop :=
  ∃ a cap, v = .slice a xs.length cap ∧ ∀ i (h : i < xs.length), ∃ b o, a = some ⟨b, o, none⟩ ∧ w.cell? ⟨b, o + i, none⟩ = some (strV xs[i])

theorem StrsAt.upd {F : Nat → Prop} {w w' : World} {v : Value} {xs : List (List UInt8)} (h : StrsAt w v xs) (hu : Upd F w w') (hF : ∀ g, v.ownBlock = some g → g < w.heap.size → ¬ F g) : StrsAt w' v xs := by
  obtain ⟨a, cap, rfl, h⟩ := h
  refine ⟨a, cap, rfl, fun i hi => ?_⟩
  obtain ⟨b, o, rfl, hc⟩ := h i hi
  exact ⟨b, o, rfl, hu.cell hc (hF b rfl (World.block_lt_of_cell? w _ hc))⟩
theorem StrsAt.below {w w' : World} {v : Value} {xs : List (List UInt8)} (h : StrsAt w v xs) (hu : Below w.heap.size w w') : StrsAt w' v xs :=
  StrsAt.upd (F := fun k => w.heap.size ≤ k) h (Upd.of_below hu (fun _ _ h => h)) (fun _ _ hlt hle => by omega)
theorem StrsAt.of_owns {w : World} {base n : Nat} {e : TypeId} {v : Value} {xs : List (List UInt8)} (h : w.ownsRow base e 1 v n (strsV xs)) : StrsAt w v xs := by
  have hl : xs.length = n := by have := h.1; simpa [strsV] using this
  subst hl
  rcases h.2 with ⟨rfl, h0⟩ | ⟨g, cap, cur, rfl, _, hb, hnc, _, hsz, htk⟩
  · exact ⟨none, 0, by rw [h0], fun i hi => by omega⟩
  · refine ⟨_, cap, rfl, fun i hi => ⟨g, 0, rfl, ?_⟩⟩
    have : (strsV xs)[i]? = some (strV xs[i]) := by simp [strsV, hi]
    rw [← htk, List.getElem?_take_of_lt (by omega)] at this
    simp only [World.cell?, hb, Nat.zero_add]
    simpa using this

theorem strV_eq {a b : List UInt8} : ((⟨a.toArray⟩ : ByteArray) == ⟨b.toArray⟩) = (a == b) := by
  show (a.toArray == b.toArray) = (a == b)
  simp

theorem same_prefix {xs ys : List (List UInt8)} {k : Nat} (hk : k < xs.length) (hk2 : k < ys.length) (h : xs.take k = ys.take k) (he : xs[k] = ys[k]) : xs.take (k + 1) = ys.take (k + 1) := by
  rw [List.take_succ_eq_append_getElem hk, List.take_succ_eq_append_getElem hk2, h, he]
theorem same_not {xs ys : List (List UInt8)} {k : Nat} (hk : k < xs.length) (hk2 : k < ys.length) (he : xs[k] ≠ ys[k]) : decide (xs = ys) = false := by
  simp only [decide_eq_false_iff_not]
  intro e
  subst e
  exact he rfl

set_option maxHeartbeats 1000000 in
theorem Same_any (v u : Value) (xs ys : List (List UInt8)) (w : World) (hx : StrsAt w v xs) (hy : StrsAt w u ys) (hlx : xs.length ≤ 1000000000) :
    Calls Try.prog 11 #[v, u] w fun e w' => e = .returned (.bool (decide (xs = ys))) ∧ Below w.heap.size w w' := by
  obtain ⟨a, c1, rfl, hx⟩ := hx
  obtain ⟨b, c2, rfl, hy⟩ := hy
  by_cases hl : xs.length = ys.length
  · have Hl := Lib.hid hl
    rw [← hl]
    clear hl
    go_enter Try.func11, Try.ntmps11
    go_wp2
    go_loopw [5] (fun i wr => ∃ (k : Nat), k ≤ xs.length ∧ i = .int .i64 k ∧ From w wr ∧ xs.take k = ys.take k) (fun i _ => xs.length - (intOf i).toNat)
    case atStart => exact ⟨0, by omega, rfl, From.refl w, by simp⟩
    case round =>
      obtain ⟨k, hk, rfl, hB, hT⟩ := hrel
      have HB := Lib.hid hB
      have HT := Lib.hid hT
      clear hB hT
      by_cases hlt : k < xs.length
      · have hkx : k < xs.length := by omega
        have hky : k < ys.length := by have := Hl.out; omega
        obtain ⟨b1, o1, rfl, e1⟩ := hx k hkx
        obtain ⟨b2, o2, rfl, e2⟩ := hy k hky
        have Hp := Lib.hid (same_prefix hkx hky HT.out)
        have Hq := Lib.hid (same_not hkx hky)
        replace e1 := HB.out.cell e1
        replace e2 := HB.out.cell e2
        simp only [strV] at e1 e2
        clear hx hy
        generalize xs[k] = p at *
        generalize ys[k] = q at *
        go_wp2
        first | (refine wp_region_from_still ?_) | (refine wp_region_from (by kernel_rfl) (by kernel_rfl) ?_)
        repeat
          first
            | ((refine wpQ_skip (by rfl) ?_); (try simp only [Act.put, List.setIfInBounds_toArray, List.set_cons_zero, List.set_cons_succ]))
            | (apply wpQ_val (by rfl); (focus (intro w' hC; (have g1 := From.cell hC e1; have g2 := From.cell hC e2); go_simp; (first | done | exact rfl))); (try simp only [Act.put, List.setIfInBounds_toArray, List.set_cons_zero, List.set_cons_succ]))
            | (apply wpQ_call (by rfl); (focus (intro w' hC; go_simp; (first | done | exact rfl | exact ⟨rfl, rfl⟩))); (focus (intro w' hC; first | fail)); (try simp only [Act.put, List.setIfInBounds_toArray, List.set_cons_zero, List.set_cons_succ]))
        refine wpQuiet_nil ?_
        intro wq hq
        have HB2 := Lib.hid (From.call HB.out hq)
        clear hq
        cases hpq : p == q
        · go_wp2
          go_ret
          exact ⟨ret_bool (by rw [Hq.out (by simpa using hpq)]), HB2.out⟩
        · go_wp2
          go_roundw
          case rel => exact ⟨k + 1, by omega, by go_num, HB2.out, Hp.out (by simpa using hpq)⟩
          case measure => simp [intOf]; omega
      · obtain rfl : k = xs.length := by omega
        have he : xs = ys := by
          have := HT.out
          rw [List.take_length, Hl.out, List.take_length] at this
          exact this
        have He := Lib.hid he
        clear he hx hy HT
        go_wp2
        go_ret
        exact ⟨ret_bool (by simp [He.out]), HB.out⟩
  · have hne : xs ≠ ys := fun e => hl (by rw [e])
    have Hne := Lib.hid hne; clear hne
    have hb : ((xs.length : Int) == ys.length) = false := by simp; omega
    go_enter Try.func11, Try.ntmps11
    go_wp2
    go_ret
    exact ⟨ret_bool (by simp [Hne.out]), by (repeat (first | exact Below.refl _ _ | assumption | refine Below.drew ?_ | refine Below.alloc ?_ (by first | exact Nat.le_refl _ | omega | (simp; done) | (simp; omega)) _ | refine Below.setCell ?_ (by first | exact Nat.le_refl _ | omega | (simp; done) | (simp; omega)) _))⟩
end Go.Proofs.Ytalgdihaeglleaa
