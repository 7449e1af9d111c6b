/- Contract of Same of the document's answer: two slices of strings, one by one. -/
import Derived.Test.YtlhcojclfgbobaaMem
import Derived.Test.YtlhcojclfgbobaaQuiet
import Derived.Test.YtlhcojclfgbobaaPlain
import Derived.Test.YtlhcojclfgbobaaProg
namespace Go.Proofs.Ytlhcojclfgbobaa
open Go.RowKit

/-- Strings in memory. -/
def StrsAt (w : World) (v : Value) (xs : List (List UInt8)) : Prop :=
  ∃ a cap, v = .slice a xs.length cap ∧ ∀ i (h : i < xs.length), ∃ b o, a = some ⟨b, o, none⟩ ∧ w.cell? ⟨b, o + i, none⟩ = some (strV xs[i])

theorem StrsAt.upd {F : Nat → Prop} {w w' : World} {v : Value} {xs : List (List UInt8)} (h : StrsAt w v xs) (hu : Upd F w w') (hF : ∀ g, v.ownBlock = some g → g < w.heap.size → ¬ F g) : StrsAt w' v xs := by
  obtain ⟨a, cap, rfl, h⟩ := h
  refine ⟨a, cap, rfl, fun i hi => ?_⟩
  obtain ⟨b, o, rfl, hc⟩ := h i hi
  exact ⟨b, o, rfl, hu.cell hc (hF b rfl (World.block_lt_of_cell? w _ hc))⟩
theorem StrsAt.below {w w' : World} {v : Value} {xs : List (List UInt8)} (h : StrsAt w v xs) (hu : Below w.heap.size w w') : StrsAt w' v xs :=
  StrsAt.upd (F := fun k => w.heap.size ≤ k) h (Upd.of_below hu (fun _ _ h => h)) (fun _ _ hlt hle => by omega)
theorem StrsAt.of_owns {w : World} {base n : Nat} {e : TypeId} {v : Value} {xs : List (List UInt8)} (h : w.ownsRow base e 1 v n (strsV xs)) : StrsAt w v xs := by
  have hl : xs.length = n := by have := h.1; simpa [strsV] using this
  subst hl
  rcases h.2 with ⟨rfl, h0⟩ | ⟨g, cap, cur, rfl, _, hb, hnc, _, hsz, htk⟩
  · exact ⟨none, 0, by rw [h0], fun i hi => by omega⟩
  · refine ⟨_, cap, rfl, fun i hi => ⟨g, 0, rfl, ?_⟩⟩
    have : (strsV xs)[i]? = some (strV xs[i]) := by simp [strsV, hi]
    rw [← htk, List.getElem?_take_of_lt (by omega)] at this
    simp only [World.cell?, hb, Nat.zero_add]
    simpa using this

theorem strV_eq {a b : List UInt8} : ((⟨a.toArray⟩ : ByteArray) == ⟨b.toArray⟩) = (a == b) := by
  show (a.toArray == b.toArray) = (a == b)
  simp

theorem same_prefix {xs ys : List (List UInt8)} {k : Nat} (hk : k < xs.length) (hk2 : k < ys.length) (h : xs.take k = ys.take k) (he : xs[k] = ys[k]) : xs.take (k + 1) = ys.take (k + 1) := by
  rw [List.take_succ_eq_append_getElem hk, List.take_succ_eq_append_getElem hk2, h, he]
theorem same_not {xs ys : List (List UInt8)} {k : Nat} (hk : k < xs.length) (hk2 : k < ys.length) (he : xs[k] ≠ ys[k]) : decide (xs = ys) = false := by
  simp only [decide_eq_false_iff_not]
  intro e
  subst e
  exact he rfl
