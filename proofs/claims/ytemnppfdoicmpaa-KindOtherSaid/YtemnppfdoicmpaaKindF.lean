/- Contracts of kind.named and kind.Named. -/
import Derived.Test.YtemnppfdoicmpaaKindE
import Derived.WalkSpells
namespace Go.Proofs.Ytemnppfdoicmpaa
open Go.RowKit
attribute [local go_sem] neq_func neq_nil eql_func eql_nil

/-- How a byte is asked for a name. -/
def nameV (l : List UInt8) : Value :=
  if l = [97, 108, 112, 104, 97] then .func (.func 50) #[] #[] else if l = [100, 105, 103, 105, 116] then .func (.func 45) #[] #[] else if l = [97, 108, 110, 117, 109] then .func (.func 55) #[] #[] else if l = [108, 111, 119, 101, 114] then .func (.func 40) #[] #[] else if l = [117, 112, 112, 101, 114] then .func (.func 37) #[] #[] else if l = [98, 108, 97, 110, 107] then .func (.func 51) #[] #[] else if l = [115, 112, 97, 99, 101] then .func (.func 56) #[] #[] else if l = [120, 100, 105, 103, 105, 116] then .func (.func 46) #[] #[] else if l = [99, 110, 116, 114, 108] then .func (.func 57) #[] #[] else if l = [112, 117, 110, 99, 116] then .func (.func 58) #[] #[] else .nilFunc

theorem named_any (s : ByteArray) (w : World) :
    Calls Try.prog 43 #[.string s] w fun e w' => e = .returned (nameV s.toList) ∧ w = w' := by
  go_enter Try.func43, Try.ntmps43
  go_wp2
  all_goals go_ret
  all_goals exact ⟨ret_val (by simp_all [nameV]), rfl⟩

/-- The bytes of a name, and whether there is one. -/
def nameP (l : List UInt8) (c : Int) : Bool :=
  if l = [97, 108, 112, 104, 97] then letterB c else if l = [100, 105, 103, 105, 116] then digitB c else if l = [97, 108, 110, 117, 109] then alnumB c else if l = [108, 111, 119, 101, 114] then smallB c else if l = [117, 112, 112, 101, 114] then greatB c else if l = [98, 108, 97, 110, 107] then blankB c else if l = [115, 112, 97, 99, 101] then spaceB c else if l = [120, 100, 105, 103, 105, 116] then hexB c else if l = [99, 110, 116, 114, 108] then controlB c else if l = [112, 117, 110, 99, 116] then punctB c else false
def nameIs (l : List UInt8) : Bool := l == [97, 108, 112, 104, 97] || l == [100, 105, 103, 105, 116] || l == [97, 108, 110, 117, 109] || l == [108, 111, 119, 101, 114] || l == [117, 112, 112, 101, 114] || l == [98, 108, 97, 110, 107] || l == [115, 112, 97, 99, 101] || l == [120, 100, 105, 103, 105, 116] || l == [99, 110, 116, 114, 108] || l == [112, 117, 110, 99, 116]

theorem namesOf (l : List UInt8) : l = [97, 108, 112, 104, 97] ∨ l = [100, 105, 103, 105, 116] ∨ l = [97, 108, 110, 117, 109] ∨ l = [108, 111, 119, 101, 114] ∨ l = [117, 112, 112, 101, 114] ∨ l = [98, 108, 97, 110, 107] ∨ l = [115, 112, 97, 99, 101] ∨ l = [120, 100, 105, 103, 105, 116] ∨ l = [99, 110, 116, 114, 108] ∨ l = [112, 117, 110, 99, 116] ∨ nameIs l = false := by
  by_cases h0 : l = [97, 108, 112, 104, 97]
  · simp [h0]
  by_cases h1 : l = [100, 105, 103, 105, 116]
  · simp [h1]
  by_cases h2 : l = [97, 108, 110, 117, 109]
  · simp [h2]
  by_cases h3 : l = [108, 111, 119, 101, 114]
  · simp [h3]
  by_cases h4 : l = [117, 112, 112, 101, 114]
  · simp [h4]
  by_cases h5 : l = [98, 108, 97, 110, 107]
  · simp [h5]
  by_cases h6 : l = [115, 112, 97, 99, 101]
  · simp [h6]
  by_cases h7 : l = [120, 100, 105, 103, 105, 116]
  · simp [h7]
  by_cases h8 : l = [99, 110, 116, 114, 108]
  · simp [h8]
  by_cases h9 : l = [112, 117, 110, 99, 116]
  · simp [h9]
  simp [nameIs, h0, h1, h2, h3, h4, h5, h6, h7, h8, h9]

theorem Named_of (s : ByteArray) (f : Nat) (p : Int → Bool) (hen : ∀ (args : Array Value) (w : World), (callFunc f args).run Try.prog w = .ok (.enter f args) w)
    (hask : ∀ (c : Int) (w : World), 0 ≤ c → c ≤ 255 → Calls Try.prog f #[.int .u8 c] w fun e w' => e = .returned (.bool (p c)) ∧ w = w')
    (ha : nameV s.toList = .func (.func f) #[] #[]) (w : World) :
    Calls Try.prog 34 #[.string s] w fun e w' => e = .returned (ofV p true) ∧ Below w.heap.size w w' := by
  have Hall := Lib.hid (fun w => all_any f p hen hask w); clear hen hask
  have hn : ∀ w, Calls Try.prog 43 #[.string s] w fun e w' => e = .returned (.func (.func f) #[] #[]) ∧ w = w' := fun w => ha ▸ named_any s w
  have Ha := Lib.hid hn; clear hn ha
  go_enter Try.func34, Try.ntmps34
  go_wp2_with fail
  refine (Ha.out _).mono ?_
  rintro e w' ⟨rfl, rfl⟩
  go_wp2_with fail
  refine (Hall.out _).mono ?_
  rintro e w1 ⟨rfl, hb⟩
  have hs := hb.size
  simp only [World.size_alloc] at hb hs
  obtain ⟨hc, hf⟩ := bcell hb
  have c0 : w1.cell? ⟨w.heap.size, 0, none⟩ = some (.int .u64 0) := by rw [hc _ _ (by omega)]; go_simp
  have c1 : w1.cell? ⟨w.heap.size, 1, none⟩ = some (.int .u64 0) := by rw [hc _ _ (by omega)]; go_simp
  have c2 : w1.cell? ⟨w.heap.size, 2, none⟩ = some (.int .u64 0) := by rw [hc _ _ (by omega)]; go_simp
  have c3 : w1.cell? ⟨w.heap.size, 3, none⟩ = some (.int .u64 0) := by rw [hc _ _ (by omega)]; go_simp
  have f0 : w1.frozen? ⟨w.heap.size, 0, none⟩ = false := by rw [hf _ _ (by omega)]; go_simp
  have f1 : w1.frozen? ⟨w.heap.size, 1, none⟩ = false := by rw [hf _ _ (by omega)]; go_simp
  have f2 : w1.frozen? ⟨w.heap.size, 2, none⟩ = false := by rw [hf _ _ (by omega)]; go_simp
  have f3 : w1.frozen? ⟨w.heap.size, 3, none⟩ = false := by rw [hf _ _ (by omega)]; go_simp
  have hB : Below w.heap.size w w1 := Below.trans ((Below.refl _ _).alloc (Nat.le_refl _) _) (hb.mono (by omega))
  clear hc hf hb
  go_wp2
  refine bodyPost_ret (v := ofV p true) ?_ rfl ⟨rfl, by (repeat (first | exact Below.refl _ _ | assumption | refine Below.drew ?_ | refine Below.alloc ?_ (by first | exact Nat.le_refl _ | omega | (simp; done) | (simp; omega)) _ | refine Below.setCell ?_ (by first | exact Nat.le_refl _ | omega | (simp; done) | (simp; omega)) _))⟩
  simp [results, ofV, setV, Try.results34, go_sem, c0, c1, c2, c3]

theorem Named_none (s : ByteArray) (ha : nameV s.toList = .nilFunc) (w : World) :
    Calls Try.prog 34 #[.string s] w fun e w' => e = .returned (setV 0 0 0 0 false) ∧ Below w.heap.size w w' := by
  have hn : ∀ w, Calls Try.prog 43 #[.string s] w fun e w' => e = .returned .nilFunc ∧ w = w' := fun w => ha ▸ named_any s w
  have Ha := Lib.hid hn; clear hn ha
  go_enter Try.func34, Try.ntmps34
  go_wp2_with fail
  refine (Ha.out _).mono ?_
  rintro e w' ⟨rfl, rfl⟩
  go_wp2
  refine bodyPost_ret (v := setV 0 0 0 0 false) ?_ rfl ⟨rfl, by (repeat (first | exact Below.refl _ _ | assumption | refine Below.drew ?_ | refine Below.alloc ?_ (by first | exact Nat.le_refl _ | omega | (simp; done) | (simp; omega)) _ | refine Below.setCell ?_ (by first | exact Nat.le_refl _ | omega | (simp; done) | (simp; omega)) _))⟩
  simp [results, setV, Try.results34, go_sem]

theorem nameP_none {l : List UInt8} (h : nameIs l = false) : (∀ c, nameP l c = false) ∧ nameV l = .nilFunc := by
  unfold nameIs at h
  simp only [Bool.or_eq_false_iff, beq_eq_false_iff_ne] at h
  obtain ⟨⟨⟨⟨⟨⟨⟨⟨⟨n1, n2⟩, n3⟩, n4⟩, n5⟩, n6⟩, n7⟩, n8⟩, n9⟩, n10⟩ := h
  exact ⟨fun c => by simp [nameP, n1, n2, n3, n4, n5, n6, n7, n8, n9, n10], by simp [nameV, n1, n2, n3, n4, n5, n6, n7, n8, n9, n10]⟩

theorem Named_any (s : ByteArray) (w : World) :
    Calls Try.prog 34 #[.string s] w fun e w' => e = .returned (ofV (nameP s.toList) (nameIs s.toList)) ∧ Below w.heap.size w w' := by
  rcases namesOf s.toList with h | h | h | h | h | h | h | h | h | h | h
  · rw [show nameIs s.toList = true from by rw [h]; rfl, ofV_congr (q := letterB) true (fun c _ => by rw [h]; rfl)]
    exact Named_of s 50 letterB (enters_n Try.func50 (by kernel_rfl) rfl) (fun c w _ _ => letter_any c w) (by rw [h]; rfl) w
  · rw [show nameIs s.toList = true from by rw [h]; rfl, ofV_congr (q := digitB) true (fun c _ => by rw [h]; rfl)]
    exact Named_of s 45 digitB (enters_n Try.func45 (by kernel_rfl) rfl) (fun c w _ _ => digit_any c w) (by rw [h]; rfl) w
  · rw [show nameIs s.toList = true from by rw [h]; rfl, ofV_congr (q := alnumB) true (fun c _ => by rw [h]; rfl)]
    exact Named_of s 55 alnumB (enters_n Try.func55 (by kernel_rfl) rfl) (fun c w _ _ => alnum_any c w) (by rw [h]; rfl) w
  · rw [show nameIs s.toList = true from by rw [h]; rfl, ofV_congr (q := smallB) true (fun c _ => by rw [h]; rfl)]
    exact Named_of s 40 smallB (enters_n Try.func40 (by kernel_rfl) rfl) (fun c w _ _ => small_any c w) (by rw [h]; rfl) w
  · rw [show nameIs s.toList = true from by rw [h]; rfl, ofV_congr (q := greatB) true (fun c _ => by rw [h]; rfl)]
    exact Named_of s 37 greatB (enters_n Try.func37 (by kernel_rfl) rfl) (fun c w _ _ => great_any c w) (by rw [h]; rfl) w
  · rw [show nameIs s.toList = true from by rw [h]; rfl, ofV_congr (q := blankB) true (fun c _ => by rw [h]; rfl)]
    exact Named_of s 51 blankB (enters_n Try.func51 (by kernel_rfl) rfl) (fun c w _ _ => blank_any c w) (by rw [h]; rfl) w
  · rw [show nameIs s.toList = true from by rw [h]; rfl, ofV_congr (q := spaceB) true (fun c _ => by rw [h]; rfl)]
    exact Named_of s 56 spaceB (enters_n Try.func56 (by kernel_rfl) rfl) (fun c w _ _ => space_any c w) (by rw [h]; rfl) w
  · rw [show nameIs s.toList = true from by rw [h]; rfl, ofV_congr (q := hexB) true (fun c _ => by rw [h]; rfl)]
    exact Named_of s 46 hexB (enters_n Try.func46 (by kernel_rfl) rfl) (fun c w _ _ => hex_any c w) (by rw [h]; rfl) w
  · rw [show nameIs s.toList = true from by rw [h]; rfl, ofV_congr (q := controlB) true (fun c _ => by rw [h]; rfl)]
    exact Named_of s 57 controlB (enters_n Try.func57 (by kernel_rfl) rfl) (fun c w _ _ => control_any c w) (by rw [h]; rfl) w
  · rw [show nameIs s.toList = true from by rw [h]; rfl, ofV_congr (q := punctB) true (fun c _ => by rw [h]; rfl)]
    exact Named_of s 58 punctB (enters_n Try.func58 (by kernel_rfl) rfl) (fun c w _ _ => punct_any c w) (by rw [h]; rfl) w
  · rw [h]
    have hp := nameP_none h
    rw [ofV_congr (q := fun _ => false) false (fun c _ => hp.1 c)]
    have hz : ofV (fun _ => false) false = setV 0 0 0 0 false := by unfold ofV; rw [accJ_none, accJ_none, accJ_none, accJ_none]
    rw [hz]
    exact Named_none s hp.2 w
end Go.Proofs.Ytemnppfdoicmpaa
