/- Contract of kind.all: the set of all bytes of which something is so. -/
import Derived.Test.YtemnppfdoicmpaaKindC
namespace Go.Proofs.Ytemnppfdoicmpaa
open Go.RowKit

/-- Word j of the set of the first k bytes of which p. -/
def accJ (p : Int → Bool) (j : Int) : Nat → Int
  | 0 => 0
  | k + 1 => if p k = true then withJ j (accJ p j k) k else accJ p j k

theorem bcell {W w1 : World} {B : Nat} (hb : Below B W w1) : (∀ b o, b < B → w1.cell? ⟨b, o, none⟩ = W.cell? ⟨b, o, none⟩) ∧ (∀ b o, b < B → w1.frozen? ⟨b, o, none⟩ = W.frozen? ⟨b, o, none⟩) :=
  ⟨fun b o h => hb.cell (p := ⟨b, o, none⟩) h, fun b o h => hb.frozen (p := ⟨b, o, none⟩) h⟩

/-- Four words in a block. -/
structure Four (W : World) (b : Nat) (a0 a1 a2 a3 : Int) : Prop where
  c0 : W.cell? ⟨b, 0, none⟩ = some (.int .u64 a0)
  c1 : W.cell? ⟨b, 1, none⟩ = some (.int .u64 a1)
  c2 : W.cell? ⟨b, 2, none⟩ = some (.int .u64 a2)
  c3 : W.cell? ⟨b, 3, none⟩ = some (.int .u64 a3)
  f0 : W.frozen? ⟨b, 0, none⟩ = false
  f1 : W.frozen? ⟨b, 1, none⟩ = false
  f2 : W.frozen? ⟨b, 2, none⟩ = false
  f3 : W.frozen? ⟨b, 3, none⟩ = false

theorem Four.below {W W' : World} {b : Nat} {a0 a1 a2 a3 : Int} {B : Nat} (h : Four W b a0 a1 a2 a3) (hb : Below B W W') (hB : b < B) : Four W' b a0 a1 a2 a3 := by
  obtain ⟨hc, hf⟩ := bcell hb
  obtain ⟨c0, c1, c2, c3, f0, f1, f2, f3⟩ := h
  exact ⟨by rw [hc _ _ hB]; exact c0, by rw [hc _ _ hB]; exact c1, by rw [hc _ _ hB]; exact c2, by rw [hc _ _ hB]; exact c3, by rw [hf _ _ hB]; exact f0, by rw [hf _ _ hB]; exact f1, by rw [hf _ _ hB]; exact f2, by rw [hf _ _ hB]; exact f3⟩

set_option maxRecDepth 100000 in
set_option maxHeartbeats 400000 in
theorem all_any (f : Nat) (p : Int → Bool) (hen : ∀ (args : Array Value) (w : World), (callFunc f args).run Try.prog w = .ok (.enter f args) w)
    (hask : ∀ (c : Int) (w : World), 0 ≤ c → c ≤ 255 → Calls Try.prog f #[.int .u8 c] w fun e w' => e = .returned (.bool (p c)) ∧ w = w') (w : World) :
    Calls Try.prog 42 #[.func (.func f) #[] #[]] w fun e w' =>
      e = .returned (.agg #[.int .u64 (accJ p 0 256), .int .u64 (accJ p 1 256), .int .u64 (accJ p 2 256), .int .u64 (accJ p 3 256)]) ∧ Below w.heap.size w w' := by
  have Hask := Lib.hid hask; clear hask
  go_enter Try.func42, Try.ntmps42
  go_wp2
  go_loopw [5] (fun i wr => ∃ k : Nat, k ≤ 256 ∧ i = .int .i64 k ∧ Four wr (w.heap.size + 1) (accJ p 0 k) (accJ p 1 k) (accJ p 2 k) (accJ p 3 k) ∧ Four wr w.heap.size 0 0 0 0 ∧ Below w.heap.size w wr ∧ w.heap.size + 2 ≤ wr.heap.size) (fun i _ => 256 - (intOf i).toNat)
  case atStart => exact ⟨0, by omega, rfl, by constructor <;> go_simp <;> rfl, by constructor <;> go_simp, by (repeat (first | exact Below.refl _ _ | assumption | refine Below.drew ?_ | refine Below.alloc ?_ (by first | exact Nat.le_refl _ | (simp; done) | (simp; omega)) _ | refine Below.setCell ?_ (by first | exact Nat.le_refl _ | (simp; done) | (simp; omega)) _)), by simp⟩
  case round =>
    obtain ⟨k, hk, rfl, hF, hR, hb, hs⟩ := hrel
    have hF' := hF
    obtain ⟨c0, c1, c2, c3, f0, f1, f2, f3⟩ := hF'
    by_cases hlt : k < 256
    · by_cases hp : p k = true
      · go_wp2_with fail
        refine (Hask.out _ _ (by omega) (by omega)).mono ?_
        rintro e w' ⟨rfl, rfl⟩
        rw [hp]
        go_wp2_with fail
        refine (With_any _ _ _ _ _ (by omega) (by omega) _).mono ?_
        rintro e w1 ⟨rfl, hb1⟩
        have hF1 := hF.below hb1 (by omega)
        have hR1 := hR.below hb1 (by omega)
        have hs1 := hb1.size
        clear c0 c1 c2 c3 f0 f1 f2 f3
        obtain ⟨c0, c1, c2, c3, f0, f1, f2, f3⟩ := hF1
        go_wp2
        go_roundw
        case rel =>
          have hb2 : Below w.heap.size w w1 := hb.trans (hb1.mono (by omega))
          refine ⟨k + 1, by omega, by go_num, ?_, ?_, by (repeat (first | exact Below.refl _ _ | assumption | refine Below.drew ?_ | refine Below.alloc ?_ (by first | exact Nat.le_refl _ | (simp; done) | (simp; omega)) _ | refine Below.setCell ?_ (by first | exact Nat.le_refl _ | (simp; done) | (simp; omega)) _)), by simp; omega⟩
          · simp only [accJ, hp, if_true]
            constructor <;> go_simp
          · obtain ⟨c0, c1, c2, c3, f0, f1, f2, f3⟩ := hR1
            constructor <;> go_simp
        case measure => simp [intOf]; omega
      · go_wp2_with fail
        refine (Hask.out _ _ (by omega) (by omega)).mono ?_
        rintro e w' ⟨rfl, rfl⟩
        have hp' : p k = false := by simpa using hp
        rw [hp']
        go_wp2
        go_roundw
        case rel =>
          refine ⟨k + 1, by omega, by go_num, ?_, hR, hb, hs⟩
          simp only [accJ, hp]
          exact hF
        case measure => simp [intOf]; omega
    · have hk2 : k = 256 := by omega
      subst hk2
      obtain ⟨d0, d1, d2, d3, g0, g1, g2, g3⟩ := hR
      go_wp2
      refine bodyPost_ret (v := .agg #[.int .u64 (accJ p 0 256), .int .u64 (accJ p 1 256), .int .u64 (accJ p 2 256), .int .u64 (accJ p 3 256)]) ?_ rfl ⟨rfl, by (repeat (first | exact Below.refl _ _ | assumption | refine Below.drew ?_ | refine Below.alloc ?_ (by first | exact Nat.le_refl _ | (simp; done) | (simp; omega)) _ | refine Below.setCell ?_ (by first | exact Nat.le_refl _ | (simp; done) | (simp; omega)) _))⟩
      simp [results, Try.results42, go_sem, d0, d1, d2, d3]
end Go.Proofs.Ytemnppfdoicmpaa
