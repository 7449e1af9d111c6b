/- The walk of the law KindCount. -/
import Derived.Test.YtemnppfdoicmpaaKindLawC
namespace Go.Proofs.Ytemnppfdoicmpaa
open Go.RowKit
attribute [local go_sem] eqlS

/-- How many of the first n bytes. -/
def cnt (p : Int → Bool) : Nat → Nat
  | 0 => 0
  | n + 1 => if p n = true then cnt p n + 1 else cnt p n

theorem cnt_le (p : Int → Bool) (n : Nat) : cnt p n ≤ n := by
  induction n with
  | zero => simp [cnt]
  | succ n ih => simp only [cnt]; split <;> omega
theorem cnt_pos {p : Int → Bool} {n c : Nat} (hc : c < n) (h : p c = true) : 0 < cnt p n := by
  induction n with
  | zero => omega
  | succ n ih =>
    simp only [cnt]
    by_cases e : c = n
    · subst e; rw [if_pos h]; omega
    · have := ih (by omega); split <;> omega
theorem cnt_lt {p : Int → Bool} {n c : Nat} (hc : c < n) (h : p c = false) : cnt p n < n := by
  induction n with
  | zero => omega
  | succ n ih =>
    have hl := cnt_le p n
    simp only [cnt]
    by_cases e : c = n
    · subst e; rw [if_neg (by rw [h]; exact Bool.false_ne_true)]; omega
    · have := ih (by omega); split <;> omega
theorem cnt_all {p : Int → Bool} {n : Nat} (h : ∀ c : Nat, c < n → p c = true) : cnt p n = n := by
  induction n with
  | zero => rfl
  | succ n ih => simp only [cnt]; rw [if_pos (h n (by omega)), ih (fun c hc => h c (by omega))]
theorem cnt_none {p : Int → Bool} {n : Nat} (h : ∀ c : Nat, c < n → p c = false) : cnt p n = 0 := by
  induction n with
  | zero => rfl
  | succ n ih => simp only [cnt]; rw [if_neg (by rw [h n (by omega)]; exact Bool.false_ne_true), ih (fun c hc => h c (by omega))]

theorem some_is {s : Int} (h : knownB s = true) : ∃ c0 c1 : Nat, c0 < 256 ∧ c1 < 256 ∧ plainB s c0 = true ∧ plainB s c1 = false := by
  rcases letters s with e | e | e | e | e | e | e | e | e | e
  · exact ⟨48, 0, by omega, by omega, by rw [e]; rfl, by rw [e]; rfl⟩
  · exact ⟨48, 0, by omega, by omega, by rw [e]; rfl, by rw [e]; rfl⟩
  · exact ⟨48, 0, by omega, by omega, by rw [e]; rfl, by rw [e]; rfl⟩
  · exact ⟨48, 0, by omega, by omega, by rw [e]; rfl, by rw [e]; rfl⟩
  · exact ⟨95, 0, by omega, by omega, by rw [e]; rfl, by rw [e]; rfl⟩
  · exact ⟨97, 0, by omega, by omega, by rw [e]; rfl, by rw [e]; rfl⟩
  · exact ⟨97, 0, by omega, by omega, by rw [e]; rfl, by rw [e]; rfl⟩
  · exact ⟨65, 0, by omega, by omega, by rw [e]; rfl, by rw [e]; rfl⟩
  · exact ⟨32, 0, by omega, by omega, by rw [e]; rfl, by rw [e]; rfl⟩
  · rw [e] at h; cases h

theorem cnt_known {k : Int} (hk : knownB (smallI k) = true) : 0 < cnt (isB k) 256 ∧ cnt (isB k) 256 < 256 := by
  obtain ⟨c0, c1, l0, l1, h0, h1⟩ := some_is hk
  have hi : ∀ c, isB k c = (plainB (smallI k) c != greatB k) := fun c => by unfold isB; rw [hk]; rfl
  cases hg : greatB k
  · exact ⟨cnt_pos l0 (by rw [hi, h0, hg]; rfl), cnt_lt l1 (by rw [hi, h1, hg]; rfl)⟩
  · exact ⟨cnt_pos l1 (by rw [hi, h1, hg]; rfl), cnt_lt l0 (by rw [hi, h0, hg]; rfl)⟩

def apartB (k c : Int) : Bool := isB (smallI k) c != isB (greatI k) c
theorem apart_known {k : Int} (h0 : 0 ≤ k) (h1 : k ≤ 255) (hk : knownB (smallI k) = true) (c : Int) : apartB k c = true := by
  obtain ⟨n, rfl⟩ := Int.eq_ofNat_of_zero_le h0
  have key : ∀ n : Fin 256, knownB (smallI (n.val : Int)) = true → smallI (smallI (n.val : Int)) = smallI (n.val : Int) ∧ smallI (greatI (n.val : Int)) = smallI (n.val : Int) ∧ greatB (smallI (n.val : Int)) = false ∧ greatB (greatI (n.val : Int)) = true := by
    decide +kernel
  obtain ⟨e1, e2, e3, e4⟩ := key ⟨n, by omega⟩ hk
  simp only at e1 e2 e3 e4
  unfold apartB isB
  rw [e1, e2, e3, e4, hk]
  cases plainB (smallI (n : Int)) c <;> rfl

set_option maxRecDepth 100000 in
set_option maxHeartbeats 1000000 in
theorem kindCount_law (k : Int) (h0 : 0 ≤ k) (h1 : k ≤ 255) (w : World) :
    Calls Try.prog 9 #[.int .u8 k] w fun e w' => e = .returned (.bool true) ∧ Below w.heap.size w w' := by
  have s1 := smallI_rng h0 h1
  have s2 := greatI_rng h0 h1
  have s3 := s1.1
  have s4 := s1.2
  have s5 := s2.1
  have s6 := s2.2
  clear s1 s2
  go_enter Try.func9, Try.ntmps9
  go_wp2
  go_loop [3, 4, 5] (fun m o i => ∃ n : Nat, n ≤ 256 ∧ i = .int .i64 n ∧ m = .int .i64 (cnt (isB k) n) ∧ o = .int .i64 (cnt (apartB k) n)) (fun _ _ i => 256 - (intOf i).toNat)
  case atStart => exact ⟨0, by omega, rfl, rfl, rfl⟩
  case round =>
    obtain ⟨n, hn, rfl, rfl, rfl⟩ := hrel
    by_cases hlt : n < 256
    · have hm := cnt_le (isB k) n
      have ho := cnt_le (apartB k) n
      have ea : apartB k n = (isB (smallI k) n != isB (greatI k) n) := rfl
      have Hm : Hid (cnt (isB k) (n + 1) = if isB k n = true then cnt (isB k) n + 1 else cnt (isB k) n) := rfl
      have Ho : Hid (cnt (apartB k) (n + 1) = if apartB k n = true then cnt (apartB k) n + 1 else cnt (apartB k) n) := rfl
      have Ea := Lib.hid ea; clear ea
      have hn1 : (n : Int) ≤ 255 := by omega
      have hn0 : (0 : Int) ≤ (n : Int) := by omega
      cases hp : isB k n <;> cases hx : isB (smallI k) n <;> cases hy : isB (greatI k) n
      all_goals
        go_wp2_with (first | (go_at_call 13; refine (Is_any _ _ (by assumption) (by assumption) _).mono ?_; rintro e w' ⟨rfl, rfl⟩) | (go_at_call 18; refine (Small_any _ (by assumption) (by assumption) _).mono ?_; rintro e w' ⟨rfl, rfl⟩) | (go_at_call 20; refine (Great_any _ (by assumption) (by assumption) _).mono ?_; rintro e w' ⟨rfl, rfl⟩))
        go_round
        case rel => exact ⟨n + 1, by omega, by go_num, by rw [Hm.out, hp]; simp, by rw [Ho.out, Ea.out, hx, hy]; simp⟩
        case measure => simp [intOf]; omega
    · have hk2 : n = 256 := by omega
      subst hk2
      go_wp2_with fail
      refine (Of_any k h0 h1 _).mono ?_
      rintro e w1 ⟨rfl, hb⟩
      have hs1 := hb.size
      cases hkn : knownB (smallI k)
      · rw [ofV_congr (q := fun _ => false) false (fun c _ => by unfold isB; rw [hkn]; rfl), ofV_eq, accJ_none, accJ_none, accJ_none, accJ_none]
        rw [cnt_none (p := isB k) (n := 256) (fun c _ => by unfold isB; rw [hkn]; rfl)]
        go_wp2_with (first | (go_at_call 16; refine (Known_any _ (by assumption) (by assumption) _).mono ?_; rintro e w' ⟨rfl, rfl⟩) | (go_at_call 14; refine (kknown_any _).mono ?_; rintro e w' ⟨rfl, rfl⟩))
        go_ret
        exact ⟨rfl, by (repeat (first | exact Below.refl _ _ | assumption | refine Below.drew ?_ | refine Below.alloc ?_ (by first | exact Nat.le_refl _ | omega | (simp; done) | (simp; omega)) _ | refine Below.setCell ?_ (by first | exact Nat.le_refl _ | omega | (simp; done) | (simp; omega)) _))⟩
      · rw [cnt_all (p := apartB k) (n := 256) (fun c _ => apart_known h0 h1 hkn c), ofV_eq]
        obtain ⟨l0, l1⟩ := cnt_known hkn
        go_wp2_with (first | (go_at_call 16; refine (Known_any _ (by assumption) (by assumption) _).mono ?_; rintro e w' ⟨rfl, rfl⟩) | (go_at_call 14; refine (kknown_any _).mono ?_; rintro e w' ⟨rfl, rfl⟩))
        go_ret
        exact ⟨ret_bool (by simp; omega), by (repeat (first | exact Below.refl _ _ | assumption | refine Below.drew ?_ | refine Below.alloc ?_ (by first | exact Nat.le_refl _ | omega | (simp; done) | (simp; omega)) _ | refine Below.setCell ?_ (by first | exact Nat.le_refl _ | omega | (simp; done) | (simp; omega)) _))⟩
end Go.Proofs.Ytemnppfdoicmpaa
