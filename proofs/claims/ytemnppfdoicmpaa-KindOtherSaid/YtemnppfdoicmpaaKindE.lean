/- Contracts of kind.Of and kind.Named: the set of a class, of a name. -/
import Derived.Test.YtemnppfdoicmpaaSetLaw
namespace Go.Proofs.Ytemnppfdoicmpaa
open Go.RowKit
attribute [local go_sem] neq_func neq_nil

theorem eql_func (f : Fn) (a b : Array Value) (w : World) : (Go.binOp .eql 39 (.func f a b) .nilFunc).run Try.prog w = .ok (.bool false) w := by
  kernel_rfl
theorem eql_nil (w : World) : (Go.binOp .eql 39 .nilFunc .nilFunc).run Try.prog w = .ok (.bool true) w := by
  kernel_rfl
attribute [local go_sem] eql_func eql_nil

/-- The four words of a set, and whether there is one. -/
def setV (a0 a1 a2 a3 : Int) (b : Bool) : Value := .tuple #[.agg #[.int .u64 a0, .int .u64 a1, .int .u64 a2, .int .u64 a3], .bool b]

theorem Of_small (k : Int) (f : Nat) (p : Int → Bool) (hen : ∀ (args : Array Value) (w : World), (callFunc f args).run Try.prog w = .ok (.enter f args) w)
    (hask : ∀ (c : Int) (w : World), 0 ≤ c → c ≤ 255 → Calls Try.prog f #[.int .u8 c] w fun e w' => e = .returned (.bool (p c)) ∧ w = w')
    (ha : ∀ w, Calls Try.prog 36 #[.int .u8 k] w fun e w' => e = .returned (.func (.func f) #[] #[]) ∧ w = w') (hg : greatB k = false) (w : World) :
    Calls Try.prog 32 #[.int .u8 k] w fun e w' => e = .returned (setV (accJ p 0 256) (accJ p 1 256) (accJ p 2 256) (accJ p 3 256) true) ∧ Below w.heap.size w w' := by
  have Hall := Lib.hid (fun w => all_any f p hen hask w); clear hen hask
  have Ha := Lib.hid ha; clear ha
  go_enter Try.func32, Try.ntmps32
  go_wp2_with fail
  refine (Ha.out _).mono ?_
  rintro e w' ⟨rfl, rfl⟩
  go_wp2_with fail
  refine (great_any _ _).mono ?_
  rintro e w' ⟨rfl, rfl⟩
  rw [hg]
  go_wp2_with fail
  refine (Hall.out _).mono ?_
  rintro e w1 ⟨rfl, hb⟩
  have hs := hb.size
  simp only [World.size_alloc] at hb hs
  obtain ⟨hc, hf⟩ := bcell hb
  have c0 : w1.cell? ⟨w.heap.size, 0, none⟩ = some (.int .u64 0) := by rw [hc _ _ (by omega)]; go_simp
  have c1 : w1.cell? ⟨w.heap.size, 1, none⟩ = some (.int .u64 0) := by rw [hc _ _ (by omega)]; go_simp
  have c2 : w1.cell? ⟨w.heap.size, 2, none⟩ = some (.int .u64 0) := by rw [hc _ _ (by omega)]; go_simp
  have c3 : w1.cell? ⟨w.heap.size, 3, none⟩ = some (.int .u64 0) := by rw [hc _ _ (by omega)]; go_simp
  have f0 : w1.frozen? ⟨w.heap.size, 0, none⟩ = false := by rw [hf _ _ (by omega)]; go_simp
  have f1 : w1.frozen? ⟨w.heap.size, 1, none⟩ = false := by rw [hf _ _ (by omega)]; go_simp
  have f2 : w1.frozen? ⟨w.heap.size, 2, none⟩ = false := by rw [hf _ _ (by omega)]; go_simp
  have f3 : w1.frozen? ⟨w.heap.size, 3, none⟩ = false := by rw [hf _ _ (by omega)]; go_simp
  have hB : Below w.heap.size w w1 := Below.trans ((Below.refl _ _).alloc (Nat.le_refl _) _) (hb.mono (by omega))
  clear hc hf hb
  go_wp2
  refine bodyPost_ret (v := setV (accJ p 0 256) (accJ p 1 256) (accJ p 2 256) (accJ p 3 256) true) ?_ rfl ⟨rfl, by (repeat (first | exact Below.refl _ _ | assumption | refine Below.drew ?_ | refine Below.alloc ?_ (by first | exact Nat.le_refl _ | omega | (simp; done) | (simp; omega)) _ | refine Below.setCell ?_ (by first | exact Nat.le_refl _ | omega | (simp; done) | (simp; omega)) _))⟩
  simp [results, setV, Try.results32, go_sem, c0, c1, c2, c3]

theorem Of_great (k : Int) (f : Nat) (p : Int → Bool) (hen : ∀ (args : Array Value) (w : World), (callFunc f args).run Try.prog w = .ok (.enter f args) w)
    (hask : ∀ (c : Int) (w : World), 0 ≤ c → c ≤ 255 → Calls Try.prog f #[.int .u8 c] w fun e w' => e = .returned (.bool (p c)) ∧ w = w')
    (ha : ∀ w, Calls Try.prog 36 #[.int .u8 k] w fun e w' => e = .returned (.func (.func f) #[] #[]) ∧ w = w') (hg : greatB k = true) (w : World) :
    Calls Try.prog 32 #[.int .u8 k] w fun e w' => e = .returned (setV (notI (accJ p 0 256)) (notI (accJ p 1 256)) (notI (accJ p 2 256)) (notI (accJ p 3 256)) true) ∧ Below w.heap.size w w' := by
  have Hall := Lib.hid (fun w => all_any f p hen hask w); clear hen hask
  have Ha := Lib.hid ha; clear ha
  go_enter Try.func32, Try.ntmps32
  go_wp2_with fail
  refine (Ha.out _).mono ?_
  rintro e w' ⟨rfl, rfl⟩
  go_wp2_with fail
  refine (great_any _ _).mono ?_
  rintro e w' ⟨rfl, rfl⟩
  rw [hg]
  go_wp2_with fail
  refine (Hall.out _).mono ?_
  rintro e w1 ⟨rfl, hb⟩
  have hs := hb.size
  go_wp2_with fail
  refine (Not_any _ _ _ _ _).mono ?_
  rintro e w2 ⟨rfl, hb2⟩
  have hb := hb.trans (hb2.mono hb.size)
  clear hb2 hs
  have hs := hb.size
  simp only [World.size_alloc] at hb hs
  obtain ⟨hc, hf⟩ := bcell hb
  have c0 : w2.cell? ⟨w.heap.size, 0, none⟩ = some (.int .u64 0) := by rw [hc _ _ (by omega)]; go_simp
  have c1 : w2.cell? ⟨w.heap.size, 1, none⟩ = some (.int .u64 0) := by rw [hc _ _ (by omega)]; go_simp
  have c2 : w2.cell? ⟨w.heap.size, 2, none⟩ = some (.int .u64 0) := by rw [hc _ _ (by omega)]; go_simp
  have c3 : w2.cell? ⟨w.heap.size, 3, none⟩ = some (.int .u64 0) := by rw [hc _ _ (by omega)]; go_simp
  have f0 : w2.frozen? ⟨w.heap.size, 0, none⟩ = false := by rw [hf _ _ (by omega)]; go_simp
  have f1 : w2.frozen? ⟨w.heap.size, 1, none⟩ = false := by rw [hf _ _ (by omega)]; go_simp
  have f2 : w2.frozen? ⟨w.heap.size, 2, none⟩ = false := by rw [hf _ _ (by omega)]; go_simp
  have f3 : w2.frozen? ⟨w.heap.size, 3, none⟩ = false := by rw [hf _ _ (by omega)]; go_simp
  have hB : Below w.heap.size w w2 := Below.trans ((Below.refl _ _).alloc (Nat.le_refl _) _) (hb.mono (by omega))
  clear hc hf hb
  go_wp2
  refine bodyPost_ret (v := setV (notI (accJ p 0 256)) (notI (accJ p 1 256)) (notI (accJ p 2 256)) (notI (accJ p 3 256)) true) ?_ rfl ⟨rfl, by (repeat (first | exact Below.refl _ _ | assumption | refine Below.drew ?_ | refine Below.alloc ?_ (by first | exact Nat.le_refl _ | omega | (simp; done) | (simp; omega)) _ | refine Below.setCell ?_ (by first | exact Nat.le_refl _ | omega | (simp; done) | (simp; omega)) _))⟩
  simp [results, setV, Try.results32, go_sem, c0, c1, c2, c3]

theorem Of_none (k : Int) (ha : ∀ w, Calls Try.prog 36 #[.int .u8 k] w fun e w' => e = .returned .nilFunc ∧ w = w') (w : World) :
    Calls Try.prog 32 #[.int .u8 k] w fun e w' => e = .returned (setV 0 0 0 0 false) ∧ Below w.heap.size w w' := by
  have Ha := Lib.hid ha; clear ha
  go_enter Try.func32, Try.ntmps32
  go_wp2_with fail
  refine (Ha.out _).mono ?_
  rintro e w' ⟨rfl, rfl⟩
  go_wp2
  refine bodyPost_ret (v := setV 0 0 0 0 false) ?_ rfl ⟨rfl, by (repeat (first | exact Below.refl _ _ | assumption | refine Below.drew ?_ | refine Below.alloc ?_ (by first | exact Nat.le_refl _ | omega | (simp; done) | (simp; omega)) _ | refine Below.setCell ?_ (by first | exact Nat.le_refl _ | omega | (simp; done) | (simp; omega)) _))⟩
  simp [results, setV, Try.results32, go_sem]

/-- A class as a set: the bytes that are of it. -/
def ofV (p : Int → Bool) (b : Bool) : Value := setV (accJ p 0 256) (accJ p 1 256) (accJ p 2 256) (accJ p 3 256) b

theorem accJ_none (j : Int) (k : Nat) : accJ (fun _ => false) j k = 0 := by
  induction k with
  | zero => rfl
  | succ k ih => simp [accJ, ih]

theorem ofV_congr {p q : Int → Bool} (b : Bool) (h : ∀ c : Nat, c < 256 → p c = q c) : ofV p b = ofV q b := by
  unfold ofV
  rw [accJ_congr 0 256 h, accJ_congr 1 256 h, accJ_congr 2 256 h, accJ_congr 3 256 h]

theorem Of_letter (k : Int) (h0 : 0 ≤ k) (h1 : k ≤ 255) (f : Nat) (p : Int → Bool) (hen : ∀ (args : Array Value) (w : World), (callFunc f args).run Try.prog w = .ok (.enter f args) w)
    (hask : ∀ (c : Int) (w : World), 0 ≤ c → c ≤ 255 → Calls Try.prog f #[.int .u8 c] w fun e w' => e = .returned (.bool (p c)) ∧ w = w')
    (hv : askV (smallI k) = .func (.func f) #[] #[]) (hkn : knownB (smallI k) = true) (hp : ∀ c, plainB (smallI k) c = p c) (w : World) :
    Calls Try.prog 32 #[.int .u8 k] w fun e w' => e = .returned (ofV (isB k) true) ∧ Below w.heap.size w w' := by
  have hi : ∀ c, isB k c = (p c != greatB k) := fun c => by rw [isB, hkn, hp]; rfl
  cases hg : greatB k
  · rw [hg] at hi
    rw [ofV_congr true (fun c _ => (hi c).trans (Bool.xor_false _))]
    exact Of_small k f p hen hask (fun w => asks_of k _ h0 h1 hv w) hg w
  · rw [hg] at hi
    have hn : ∀ c : Nat, c < 256 → isB k c = !p c := fun c _ => by rw [hi]; cases p c <;> rfl
    unfold ofV
    have e0 := not_acc 0 (by omega) hn
    have e1 := not_acc 1 (by omega) hn
    have e2 := not_acc 2 (by omega) hn
    have e3 := not_acc 3 (by omega) hn
    simp only [Int.natCast_zero, Int.natCast_one] at e0 e1
    rw [← e0, ← e1, show (2 : Int) = ((2 : Nat) : Int) from rfl, ← e2, show (3 : Int) = ((3 : Nat) : Int) from rfl, ← e3]
    exact Of_great k f p hen hask (fun w => asks_of k _ h0 h1 hv w) hg w

theorem enters_n {f : Nat} {fn : Func} {c : Code} (hf : Try.prog.funcs[f]? = some fn) (hname : (fn.name == "runtime.NumGoroutine") = false) (hb : fn.body = some c) (args : Array Value) (w : World) :
    (callFunc f args).run Try.prog w = .ok (.enter f args) w := by
  have hn : ¬ fn.name = "runtime.NumGoroutine" := by simpa using hname
  simp [callFunc, hf, hn, hb, go_sem]

theorem Of_any (k : Int) (h0 : 0 ≤ k) (h1 : k ≤ 255) (w : World) :
    Calls Try.prog 32 #[.int .u8 k] w fun e w' => e = .returned (ofV (isB k) (knownB (smallI k))) ∧ Below w.heap.size w w' := by
  rcases letters (smallI k) with h | h | h | h | h | h | h | h | h | h
  · rw [show knownB (smallI k) = true from by rw [h]; rfl]
    exact Of_letter k h0 h1 45 digitB (enters_n Try.func45 (by kernel_rfl) rfl) (fun c w _ _ => digit_any c w) (by rw [h]; rfl) (by rw [h]; rfl) (fun c => by rw [h]; rfl) w
  · rw [show knownB (smallI k) = true from by rw [h]; rfl]
    exact Of_letter k h0 h1 46 hexB (enters_n Try.func46 (by kernel_rfl) rfl) (fun c w _ _ => hex_any c w) (by rw [h]; rfl) (by rw [h]; rfl) (fun c => by rw [h]; rfl) w
  · rw [show knownB (smallI k) = true from by rw [h]; rfl]
    exact Of_letter k h0 h1 47 octalB (enters_n Try.func47 (by kernel_rfl) rfl) (fun c w _ _ => octal_any c w) (by rw [h]; rfl) (by rw [h]; rfl) (fun c => by rw [h]; rfl) w
  · rw [show knownB (smallI k) = true from by rw [h]; rfl]
    exact Of_letter k h0 h1 48 wordB (enters_n Try.func48 (by kernel_rfl) rfl) (fun c w _ _ => word_any c w) (by rw [h]; rfl) (by rw [h]; rfl) (fun c => by rw [h]; rfl) w
  · rw [show knownB (smallI k) = true from by rw [h]; rfl]
    exact Of_letter k h0 h1 49 headB (enters_n Try.func49 (by kernel_rfl) rfl) (fun c w _ _ => head_any c w) (by rw [h]; rfl) (by rw [h]; rfl) (fun c => by rw [h]; rfl) w
  · rw [show knownB (smallI k) = true from by rw [h]; rfl]
    exact Of_letter k h0 h1 50 letterB (enters_n Try.func50 (by kernel_rfl) rfl) (fun c w _ _ => letter_any c w) (by rw [h]; rfl) (by rw [h]; rfl) (fun c => by rw [h]; rfl) w
  · rw [show knownB (smallI k) = true from by rw [h]; rfl]
    exact Of_letter k h0 h1 40 smallB (enters_n Try.func40 (by kernel_rfl) rfl) (fun c w _ _ => small_any c w) (by rw [h]; rfl) (by rw [h]; rfl) (fun c => by rw [h]; rfl) w
  · rw [show knownB (smallI k) = true from by rw [h]; rfl]
    exact Of_letter k h0 h1 37 greatB (enters_n Try.func37 (by kernel_rfl) rfl) (fun c w _ _ => great_any c w) (by rw [h]; rfl) (by rw [h]; rfl) (fun c => by rw [h]; rfl) w
  · rw [show knownB (smallI k) = true from by rw [h]; rfl]
    exact Of_letter k h0 h1 51 blankB (enters_n Try.func51 (by kernel_rfl) rfl) (fun c w _ _ => blank_any c w) (by rw [h]; rfl) (by rw [h]; rfl) (fun c => by rw [h]; rfl) w
  · rw [h]
    have hp : ∀ c : Nat, c < 256 → isB k c = (fun _ : Int => false) c := fun c _ => by simp [isB, h]
    rw [ofV_congr (q := fun _ => false) false hp]
    have hz : ofV (fun _ => false) false = setV 0 0 0 0 false := by unfold ofV; rw [accJ_none, accJ_none, accJ_none, accJ_none]
    rw [hz]
    exact Of_none k (fun w => asks_of k _ h0 h1 (askV_none h) w) w
end Go.Proofs.Ytemnppfdoicmpaa
