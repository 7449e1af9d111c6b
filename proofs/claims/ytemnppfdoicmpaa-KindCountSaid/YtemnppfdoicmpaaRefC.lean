/- Contracts of emendatorref01.named, Of, Named. -/
import Derived.Test.YtemnppfdoicmpaaKindF
import Derived.Test.YtemnppfdoicmpaaRefA
import Derived.Test.YtemnppfdoicmpaaRefB
import Derived.Test.YtemnppfdoicmpaaQuiet
import Derived.Deep.RegionWith
namespace Go.Proofs.Ytemnppfdoicmpaa
open Go.RowKit

set_option maxHeartbeats 1000000 in
theorem rnamed_any (s : ByteArray) (c : Int) (w : World) :
    Calls Try.prog 44 #[.string s, .int .u8 c] w fun e w' => e = .returned (.tuple #[.bool (nameP s.toList c), .bool (nameIs s.toList)]) ∧ w = w' := by
  have hx : isB 120 c = hexB c := by show (hexB c != false) = _; simp
  rcases namesOf s.toList with h | h | h | h | h | h | h | h | h | h | h
  iterate 10
    · have H := Lib.hid h
      go_enter Try.func44, Try.ntmps44
      go_wp2_with (first | (go_at_call 41; refine (rsmall_any _ _).mono ?_; rintro e w' ⟨rfl, rfl⟩) | (go_at_call 39; refine (rgreat_any _ _).mono ?_; rintro e w' ⟨rfl, rfl⟩) | (go_at_call 53; refine (rdigit_any _ _).mono ?_; rintro e w' ⟨rfl, rfl⟩) | (go_at_call 54; refine (rbetween_any _ _ _ _).mono ?_; rintro e w' ⟨rfl, rfl⟩) | (go_at_call 15; refine (rIs_any _ _ (by decide) (by decide) _).mono ?_; rintro e w' ⟨rfl, rfl⟩))
      all_goals go_ret2
      all_goals exact ⟨ret_two (by (try rw [H.out]); simp_all [nameP, letterB, alnumB, blankB, spaceB, controlB, punctB]) (by first | (rw [H.out]; rfl) | rfl), rfl⟩
  · have hp := nameP_none h
    have E1 := Lib.hid h
    have E2 := Lib.hid hp.1
    unfold nameIs at h
    simp only [Bool.or_eq_false_iff] at h
    obtain ⟨⟨⟨⟨⟨⟨⟨⟨⟨n1, n2⟩, n3⟩, n4⟩, n5⟩, n6⟩, n7⟩, n8⟩, n9⟩, n10⟩ := h
    clear hp
    go_enter Try.func44, Try.ntmps44
    go_wp2_with (first | (go_at_call 41; refine (rsmall_any _ _).mono ?_; rintro e w' ⟨rfl, rfl⟩) | (go_at_call 39; refine (rgreat_any _ _).mono ?_; rintro e w' ⟨rfl, rfl⟩))
    all_goals go_ret2
    all_goals exact ⟨ret_two (by rw [E2.out]) (by rw [E1.out]), rfl⟩

set_option maxRecDepth 100000 in
set_option maxHeartbeats 1000000 in
theorem rOf_any (k : Int) (h0 : 0 ≤ k) (h1 : k ≤ 255) (w : World) :
    Calls Try.prog 33 #[.int .u8 k] w fun e w' => e = .returned (ofV (isB k) (knownB (smallI k))) ∧ Below w.heap.size w w' := by
  go_enter Try.func33, Try.ntmps33
  go_wp2
  go_loopw [5] (fun i wr => ∃ n : Nat, n ≤ 256 ∧ i = .int .i64 n ∧ Four wr (w.heap.size + 1) (accJ (isB k) 0 n) (accJ (isB k) 1 n) (accJ (isB k) 2 n) (accJ (isB k) 3 n) ∧ Four wr w.heap.size 0 0 0 0 ∧ Below w.heap.size w wr ∧ w.heap.size + 2 ≤ wr.heap.size) (fun i _ => 256 - (intOf i).toNat)
  case atStart => exact ⟨0, by omega, rfl, by constructor <;> go_simp <;> rfl, by constructor <;> go_simp, by (repeat (first | exact Below.refl _ _ | assumption | refine Below.drew ?_ | refine Below.alloc ?_ (by first | exact Nat.le_refl _ | omega | (simp; done) | (simp; omega)) _ | refine Below.setCell ?_ (by first | exact Nat.le_refl _ | omega | (simp; done) | (simp; omega)) _)), by simp⟩
  case round =>
    obtain ⟨n, hn, rfl, hF, hR, hb, hs⟩ := hrel
    have hF' := hF
    obtain ⟨c0, c1, c2, c3, f0, f1, f2, f3⟩ := hF'
    by_cases hlt : n < 256
    · by_cases hp : isB k n = true
      · go_wp2_with fail
        refine (rIs_any _ _ h0 h1 _).mono ?_
        rintro e w' ⟨rfl, rfl⟩
        rw [hp]
        go_wp2_with fail
        refine (rWith_any _ _ _ _ _ (by omega) (by omega) _).mono ?_
        rintro e w1 ⟨rfl, hb1⟩
        have hF1 := hF.below hb1 (by omega)
        have hR1 := hR.below hb1 (by omega)
        have hs1 := hb1.size
        clear c0 c1 c2 c3 f0 f1 f2 f3
        obtain ⟨c0, c1, c2, c3, f0, f1, f2, f3⟩ := hF1
        go_wp2
        go_roundw
        case rel =>
          have hb2 : Below w.heap.size w w1 := hb.trans (hb1.mono (by omega))
          refine ⟨n + 1, by omega, by go_num, ?_, ?_, by (repeat (first | exact Below.refl _ _ | assumption | refine Below.drew ?_ | refine Below.alloc ?_ (by first | exact Nat.le_refl _ | omega | (simp; done) | (simp; omega)) _ | refine Below.setCell ?_ (by first | exact Nat.le_refl _ | omega | (simp; done) | (simp; omega)) _)), by simp; omega⟩
          · simp only [accJ, hp, if_true]
            constructor <;> go_simp
          · obtain ⟨c0, c1, c2, c3, f0, f1, f2, f3⟩ := hR1
            constructor <;> go_simp
        case measure => simp [intOf]; omega
      · go_wp2_with fail
        refine (rIs_any _ _ h0 h1 _).mono ?_
        rintro e w' ⟨rfl, rfl⟩
        have hp' : isB k n = false := by simpa using hp
        rw [hp']
        go_wp2
        go_roundw
        case rel =>
          refine ⟨n + 1, by omega, by go_num, ?_, hR, hb, hs⟩
          simp only [accJ, hp]
          exact hF
        case measure => simp [intOf]; omega
    · have hk2 : n = 256 := by omega
      subst hk2
      obtain ⟨d0, d1, d2, d3, g0, g1, g2, g3⟩ := hR
      go_wp2
      go_region_with (go_at_call 17; refine (rKnown_any _ h0 h1 _).mono ?_; rintro e w' ⟨rfl, rfl⟩)
      all_goals
        go_wp2
        refine bodyPost_ret (v := ofV (isB k) (knownB (smallI k))) ?_ rfl ⟨rfl, by (repeat (first | exact Below.refl _ _ | assumption | refine Below.drew ?_ | refine Below.alloc ?_ (by first | exact Nat.le_refl _ | omega | (simp; done) | (simp; omega)) _ | refine Below.setCell ?_ (by first | exact Nat.le_refl _ | omega | (simp; done) | (simp; omega)) _))⟩
        simp [results, ofV, setV, Try.results33, go_sem, d0, d1, d2, d3]


set_option maxRecDepth 100000 in
set_option maxHeartbeats 1000000 in
theorem rNamed_any (s : ByteArray) (w : World) :
    Calls Try.prog 35 #[.string s] w fun e w' => e = .returned (ofV (nameP s.toList) (nameIs s.toList)) ∧ Below w.heap.size w w' := by
  go_enter Try.func35, Try.ntmps35
  go_wp2
  go_loopw [5, 6] (fun b i wr => ∃ n : Nat, n ≤ 256 ∧ i = .int .i64 n ∧ b = .bool (decide (0 < n) && nameIs s.toList) ∧ Four wr (w.heap.size + 1) (accJ (nameP s.toList) 0 n) (accJ (nameP s.toList) 1 n) (accJ (nameP s.toList) 2 n) (accJ (nameP s.toList) 3 n) ∧ Four wr w.heap.size 0 0 0 0 ∧ Below w.heap.size w wr ∧ w.heap.size + 2 ≤ wr.heap.size) (fun _ i _ => 256 - (intOf i).toNat)
  case atStart => exact ⟨0, by omega, rfl, by simp, by constructor <;> go_simp <;> rfl, by constructor <;> go_simp, by (repeat (first | exact Below.refl _ _ | assumption | refine Below.drew ?_ | refine Below.alloc ?_ (by first | exact Nat.le_refl _ | omega | (simp; done) | (simp; omega)) _ | refine Below.setCell ?_ (by first | exact Nat.le_refl _ | omega | (simp; done) | (simp; omega)) _)), by simp⟩
  case round =>
    obtain ⟨n, hn, rfl, rfl, hF, hR, hb, hs⟩ := hrel
    have hF' := hF
    obtain ⟨c0, c1, c2, c3, f0, f1, f2, f3⟩ := hF'
    by_cases hlt : n < 256
    · by_cases hp : nameP s.toList n = true
      · go_wp2_with fail
        refine (rnamed_any _ _ _).mono ?_
        rintro e w' ⟨rfl, rfl⟩
        rw [hp]
        go_wp2_with fail
        refine (rWith_any _ _ _ _ _ (by omega) (by omega) _).mono ?_
        rintro e w1 ⟨rfl, hb1⟩
        have hF1 := hF.below hb1 (by omega)
        have hR1 := hR.below hb1 (by omega)
        have hs1 := hb1.size
        clear c0 c1 c2 c3 f0 f1 f2 f3
        obtain ⟨c0, c1, c2, c3, f0, f1, f2, f3⟩ := hF1
        go_wp2
        go_roundw
        case rel =>
          have hb2 : Below w.heap.size w w1 := hb.trans (hb1.mono (by omega))
          refine ⟨n + 1, by omega, by go_num, by simp, ?_, ?_, by (repeat (first | exact Below.refl _ _ | assumption | refine Below.drew ?_ | refine Below.alloc ?_ (by first | exact Nat.le_refl _ | omega | (simp; done) | (simp; omega)) _ | refine Below.setCell ?_ (by first | exact Nat.le_refl _ | omega | (simp; done) | (simp; omega)) _)), by simp; omega⟩
          · simp only [accJ, hp, if_true]
            constructor <;> go_simp
          · obtain ⟨c0, c1, c2, c3, f0, f1, f2, f3⟩ := hR1
            constructor <;> go_simp
        case measure => simp [intOf]; omega
      · go_wp2_with fail
        refine (rnamed_any _ _ _).mono ?_
        rintro e w' ⟨rfl, rfl⟩
        have hp' : nameP s.toList n = false := by simpa using hp
        rw [hp']
        go_wp2
        go_roundw
        case rel =>
          refine ⟨n + 1, by omega, by go_num, by simp, ?_, hR, hb, hs⟩
          simp only [accJ, hp]
          exact hF
        case measure => simp [intOf]; omega
    · have hk2 : n = 256 := by omega
      subst hk2
      obtain ⟨d0, d1, d2, d3, g0, g1, g2, g3⟩ := hR
      go_wp2
      refine bodyPost_ret (v := ofV (nameP s.toList) (nameIs s.toList)) ?_ rfl ⟨rfl, by (repeat (first | exact Below.refl _ _ | assumption | refine Below.drew ?_ | refine Below.alloc ?_ (by first | exact Nat.le_refl _ | omega | (simp; done) | (simp; omega)) _ | refine Below.setCell ?_ (by first | exact Nat.le_refl _ | omega | (simp; done) | (simp; omega)) _))⟩
      simp [results, ofV, setV, Try.results35, go_sem, d0, d1, d2, d3]
end Go.Proofs.Ytemnppfdoicmpaa
