/- Lemmas that the law's proof stands on, part 2: RefC, Pat, Cmp, Eng, PatA. No condition. -/
import Derived.Test.YtigbfgmgdfnhcaaBaseA0
import Derived.Deep.RegionWith
import Derived.Lib.Hide
import Derived.Lib.Strings
import Derived.Test.YtigbfgmgdfnhcaaBaseA1
set_option linter.all false
set_option linter.unusedVariables false
set_option linter.unusedSimpArgs false
namespace Go.Proofs.Ytigbfgmgdfnhcaa
open Go.RowKit
set_option maxHeartbeats 1000000 in
theorem rnamed_any (s : ByteArray) (c : Int) (w : World) :
    Calls Try.prog 109 #[.string s, .int .u8 c] w fun e w' => e = .returned (.tuple #[.bool (nameP s.toList c), .bool (nameIs s.toList)]) ∧ w = w' := by
  have hx : isB 120 c = hexB c := by show (hexB c != false) = _; simp
  rcases namesOf s.toList with h | h | h | h | h | h | h | h | h | h | h
  iterate 10
    · have H := Lib.hid h
      go_enter Try.func109, Try.ntmps109
      go_wp2_with (first | (go_at_call 49; refine (rsmall_any _ _).mono ?_; rintro e w' ⟨rfl, rfl⟩) | (go_at_call 32; refine (rgreat_any _ _).mono ?_; rintro e w' ⟨rfl, rfl⟩) | (go_at_call 47; refine (rdigit_any _ _).mono ?_; rintro e w' ⟨rfl, rfl⟩) | (go_at_call 48; refine (rbetween_any _ _ _ _).mono ?_; rintro e w' ⟨rfl, rfl⟩) | (go_at_call 18; refine (rIs_any _ _ (by decide) (by decide) _).mono ?_; rintro e w' ⟨rfl, rfl⟩))
      all_goals go_ret2
      all_goals exact ⟨ret_two (by (try rw [H.out]); simp_all [nameP, letterB, alnumB, blankB, spaceB, controlB, punctB]) (by first | (rw [H.out]; rfl) | rfl), rfl⟩
  · have hp := nameP_no h
    have E1 := Lib.hid h
    have E2 := Lib.hid hp
    unfold nameIs at h
    simp only [Bool.or_eq_false_iff] at h
    obtain ⟨⟨⟨⟨⟨⟨⟨⟨⟨n1, n2⟩, n3⟩, n4⟩, n5⟩, n6⟩, n7⟩, n8⟩, n9⟩, n10⟩ := h
    clear hp
    go_enter Try.func109, Try.ntmps109
    go_wp2_with (first | (go_at_call 49; refine (rsmall_any _ _).mono ?_; rintro e w' ⟨rfl, rfl⟩) | (go_at_call 32; refine (rgreat_any _ _).mono ?_; rintro e w' ⟨rfl, rfl⟩))
    all_goals go_ret2
    all_goals exact ⟨ret_two (by rw [E2.out]) (by rw [E1.out]), rfl⟩
set_option maxRecDepth 100000 in
set_option maxHeartbeats 1000000 in
theorem rOf_any (k : Int) (h0 : 0 ≤ k) (h1 : k ≤ 255) (w : World) :
    Calls Try.prog 93 #[.int .u8 k] w fun e w' => e = .returned (ofV (isB k) (knownB (smallI k))) ∧ Below w.heap.size w w' := by
  go_enter Try.func93, Try.ntmps93
  go_wp2
  go_loopw [5] (fun i wr => ∃ n : Nat, n ≤ 256 ∧ i = .int .i64 n ∧ Four wr (w.heap.size + 1) (accJ (isB k) 0 n) (accJ (isB k) 1 n) (accJ (isB k) 2 n) (accJ (isB k) 3 n) ∧ Four wr w.heap.size 0 0 0 0 ∧ Below w.heap.size w wr ∧ w.heap.size + 2 ≤ wr.heap.size) (fun i _ => 256 - (intOf i).toNat)
  case atStart => exact ⟨0, by omega, rfl, by constructor <;> go_simp <;> rfl, by constructor <;> go_simp, by (repeat (first | exact Below.refl _ _ | assumption | refine Below.drew ?_ | refine Below.alloc ?_ (by first | exact Nat.le_refl _ | omega | (simp; done) | (simp; omega)) _ | refine Below.setCell ?_ (by first | exact Nat.le_refl _ | omega | (simp; done) | (simp; omega)) _)), by simp⟩
  case round =>
    obtain ⟨n, hn, rfl, hF, hR, hb, hs⟩ := hrel
    have hF' := hF
    obtain ⟨c0, c1, c2, c3, f0, f1, f2, f3⟩ := hF'
    by_cases hlt : n < 256
    · by_cases hp : isB k n = true
      · go_wp2_with fail
        refine (rIs_any _ _ h0 h1 _).mono ?_
        rintro e w' ⟨rfl, rfl⟩
        rw [hp]
        go_wp2_with fail
        refine (rWith_any _ _ _ _ _ (by omega) (by omega) _).mono ?_
        rintro e w1 ⟨rfl, hb1⟩
        have hF1 := hF.below hb1 (by omega)
        have hR1 := hR.below hb1 (by omega)
        have hs1 := hb1.size
        clear c0 c1 c2 c3 f0 f1 f2 f3
        obtain ⟨c0, c1, c2, c3, f0, f1, f2, f3⟩ := hF1
        go_wp2
        go_roundw
        case rel =>
          have hb2 : Below w.heap.size w w1 := hb.trans (hb1.mono (by omega))
          refine ⟨n + 1, by omega, by go_num, ?_, ?_, by (repeat (first | exact Below.refl _ _ | assumption | refine Below.drew ?_ | refine Below.alloc ?_ (by first | exact Nat.le_refl _ | omega | (simp; done) | (simp; omega)) _ | refine Below.setCell ?_ (by first | exact Nat.le_refl _ | omega | (simp; done) | (simp; omega)) _)), by simp; omega⟩
          · simp only [accJ, hp, if_true]
            constructor <;> go_simp
          · obtain ⟨c0, c1, c2, c3, f0, f1, f2, f3⟩ := hR1
            constructor <;> go_simp
        case measure => simp [intOf]; omega
      · go_wp2_with fail
        refine (rIs_any _ _ h0 h1 _).mono ?_
        rintro e w' ⟨rfl, rfl⟩
        have hp' : isB k n = false := by simpa using hp
        rw [hp']
        go_wp2
        go_roundw
        case rel =>
          refine ⟨n + 1, by omega, by go_num, ?_, hR, hb, hs⟩
          simp only [accJ, hp]
          exact hF
        case measure => simp [intOf]; omega
    · have hk2 : n = 256 := by omega
      subst hk2
      obtain ⟨d0, d1, d2, d3, g0, g1, g2, g3⟩ := hR
      go_wp2
      go_region_with (go_at_call 21; refine (rKnown_any _ h0 h1 _).mono ?_; rintro e w' ⟨rfl, rfl⟩)
      all_goals
        go_wp2
        refine bodyPost_ret (v := ofV (isB k) (knownB (smallI k))) ?_ rfl ⟨rfl, by (repeat (first | exact Below.refl _ _ | assumption | refine Below.drew ?_ | refine Below.alloc ?_ (by first | exact Nat.le_refl _ | omega | (simp; done) | (simp; omega)) _ | refine Below.setCell ?_ (by first | exact Nat.le_refl _ | omega | (simp; done) | (simp; omega)) _))⟩
        simp [results, ofV, setV, Try.results93, go_sem, d0, d1, d2, d3]
set_option maxRecDepth 100000 in
set_option maxHeartbeats 1000000 in
theorem rNamed_any (s : ByteArray) (w : World) :
    Calls Try.prog 107 #[.string s] w fun e w' => e = .returned (ofV (nameP s.toList) (nameIs s.toList)) ∧ Below w.heap.size w w' := by
  go_enter Try.func107, Try.ntmps107
  go_wp2
  go_loopw [5, 6] (fun b i wr => ∃ n : Nat, n ≤ 256 ∧ i = .int .i64 n ∧ b = .bool (decide (0 < n) && nameIs s.toList) ∧ Four wr (w.heap.size + 1) (accJ (nameP s.toList) 0 n) (accJ (nameP s.toList) 1 n) (accJ (nameP s.toList) 2 n) (accJ (nameP s.toList) 3 n) ∧ Four wr w.heap.size 0 0 0 0 ∧ Below w.heap.size w wr ∧ w.heap.size + 2 ≤ wr.heap.size) (fun _ i _ => 256 - (intOf i).toNat)
  case atStart => exact ⟨0, by omega, rfl, by simp, by constructor <;> go_simp <;> rfl, by constructor <;> go_simp, by (repeat (first | exact Below.refl _ _ | assumption | refine Below.drew ?_ | refine Below.alloc ?_ (by first | exact Nat.le_refl _ | omega | (simp; done) | (simp; omega)) _ | refine Below.setCell ?_ (by first | exact Nat.le_refl _ | omega | (simp; done) | (simp; omega)) _)), by simp⟩
  case round =>
    obtain ⟨n, hn, rfl, rfl, hF, hR, hb, hs⟩ := hrel
    have hF' := hF
    obtain ⟨c0, c1, c2, c3, f0, f1, f2, f3⟩ := hF'
    by_cases hlt : n < 256
    · by_cases hp : nameP s.toList n = true
      · go_wp2_with fail
        refine (rnamed_any _ _ _).mono ?_
        rintro e w' ⟨rfl, rfl⟩
        rw [hp]
        go_wp2_with fail
        refine (rWith_any _ _ _ _ _ (by omega) (by omega) _).mono ?_
        rintro e w1 ⟨rfl, hb1⟩
        have hF1 := hF.below hb1 (by omega)
        have hR1 := hR.below hb1 (by omega)
        have hs1 := hb1.size
        clear c0 c1 c2 c3 f0 f1 f2 f3
        obtain ⟨c0, c1, c2, c3, f0, f1, f2, f3⟩ := hF1
        go_wp2
        go_roundw
        case rel =>
          have hb2 : Below w.heap.size w w1 := hb.trans (hb1.mono (by omega))
          refine ⟨n + 1, by omega, by go_num, by simp, ?_, ?_, by (repeat (first | exact Below.refl _ _ | assumption | refine Below.drew ?_ | refine Below.alloc ?_ (by first | exact Nat.le_refl _ | omega | (simp; done) | (simp; omega)) _ | refine Below.setCell ?_ (by first | exact Nat.le_refl _ | omega | (simp; done) | (simp; omega)) _)), by simp; omega⟩
          · simp only [accJ, hp, if_true]
            constructor <;> go_simp
          · obtain ⟨c0, c1, c2, c3, f0, f1, f2, f3⟩ := hR1
            constructor <;> go_simp
        case measure => simp [intOf]; omega
      · go_wp2_with fail
        refine (rnamed_any _ _ _).mono ?_
        rintro e w' ⟨rfl, rfl⟩
        have hp' : nameP s.toList n = false := by simpa using hp
        rw [hp']
        go_wp2
        go_roundw
        case rel =>
          refine ⟨n + 1, by omega, by go_num, by simp, ?_, hR, hb, hs⟩
          simp only [accJ, hp]
          exact hF
        case measure => simp [intOf]; omega
    · have hk2 : n = 256 := by omega
      subst hk2
      obtain ⟨d0, d1, d2, d3, g0, g1, g2, g3⟩ := hR
      go_wp2
      refine bodyPost_ret (v := ofV (nameP s.toList) (nameIs s.toList)) ?_ rfl ⟨rfl, by (repeat (first | exact Below.refl _ _ | assumption | refine Below.drew ?_ | refine Below.alloc ?_ (by first | exact Nat.le_refl _ | omega | (simp; done) | (simp; omega)) _ | refine Below.setCell ?_ (by first | exact Nat.le_refl _ | omega | (simp; done) | (simp; omega)) _))⟩
      simp [results, ofV, setV, Try.results107, go_sem, d0, d1, d2, d3]
end Go.Proofs.Ytigbfgmgdfnhcaa
namespace Go.Proofs.Ytigbfgmgdfnhcaa
open Go.RowKit
/-- The byte at a place. -/
def bl (l : List UInt8) (k : Nat) : Int := (((l[k]?).getD 0).toNat : Int)
def inL (l : List UInt8) (c : Int) : Bool := l.any fun x => (x.toNat : Int) == c
def signsL : List UInt8 := [94, 36, 46, 42, 91, 126, 43, 61, 63, 123, 40, 41, 124, 60, 62]
def plainL (mode : Int) : List UInt8 := if mode = 118 then signsL else if mode = 109 then [94, 36, 46, 42, 91, 126] else if mode = 77 then [94, 36] else []
structure SetD where
  a0 : Int
  a1 : Int
  a2 : Int
  a3 : Int
  deriving DecidableEq
def SetD.zero : SetD := ⟨0, 0, 0, 0⟩
def setJ (p : Int → Bool) : SetD := ⟨accJ p 0 256, accJ p 1 256, accJ p 2 256, accJ p 3 256⟩
def SetD.both (x y : SetD) : SetD := ⟨bothI x.a0 y.a0, bothI x.a1 y.a1, bothI x.a2 y.a2, bothI x.a3 y.a3⟩
def SetD.not (x : SetD) : SetD := ⟨notI x.a0, notI x.a1, notI x.a2, notI x.a3⟩
def SetD.add (x : SetD) (c : Int) : SetD := ⟨withJ 0 x.a0 c, withJ 1 x.a1 c, withJ 2 x.a2 c, withJ 3 x.a3 c⟩
structure NodeD where
  op : Int
  c : Int := 0
  set : SetD := SetD.zero
  min : Int := 0
  max : Int := 0
  lzy : Bool := false
  n : Int := 0
  kids : List Nat := []
  deriving DecidableEq
def NodeD.zero : NodeD := { op := 0 }
structure TokD where
  sign : Int
  node : NodeD
  non : Bool
  next : Nat
  mode : Int
  case : Int
  deriving DecidableEq
def letterF (c : Int) : Int × Bool := if c = 101 then (27, true) else if c = 116 then (9, true) else if c = 114 then (13, true) else if c = 98 then (8, true) else (0, false)
/-- A token behind a backslash; false: none. -/
def slashF (l : List UInt8) (mode cs : Int) (i : Nat) : TokD × Bool :=
  if l.length ≤ i + 1 then (⟨0, .zero, false, i + 2, mode, cs⟩, false)
  else if inL [118, 109, 77, 86] (bl l (i + 1)) = true then (⟨0, .zero, true, i + 2, bl l (i + 1), cs⟩, true)
  else if bl l (i + 1) = 99 then (⟨0, .zero, true, i + 2, mode, 1⟩, true)
  else if bl l (i + 1) = 67 then (⟨0, .zero, true, i + 2, mode, 2⟩, true)
  else if inL signsL (bl l (i + 1)) = true then
    if inL (plainL mode) (bl l (i + 1)) = true then (⟨0, { op := 2, c := bl l (i + 1) }, false, i + 2, mode, cs⟩, true) else (⟨bl l (i + 1), .zero, false, i + 2, mode, cs⟩, true)
  else if 49 ≤ bl l (i + 1) ∧ bl l (i + 1) ≤ 57 then (⟨0, { op := 9, n := bl l (i + 1) - 48 }, false, i + 2, mode, cs⟩, true)
  else if knownB (smallI (bl l (i + 1))) = true then (⟨0, { op := 4, set := setJ (isB (bl l (i + 1))) }, false, i + 2, mode, cs⟩, true)
  else if (letterF (bl l (i + 1))).2 = true then (⟨0, { op := 2, c := (letterF (bl l (i + 1))).1 }, false, i + 2, mode, cs⟩, true)
  else if bl l (i + 1) = 110 then (⟨0, { op := 4 }, false, i + 2, mode, cs⟩, true)
  else if bl l (i + 1) = 122 ∧ i + 2 < l.length ∧ bl l (i + 2) = 115 then (⟨0, { op := 14 }, false, i + 3, mode, cs⟩, true)
  else if bl l (i + 1) = 122 ∧ i + 2 < l.length ∧ bl l (i + 2) = 101 then (⟨0, { op := 15 }, false, i + 3, mode, cs⟩, true)
  else if isB 119 (bl l (i + 1)) = true ∧ bl l (i + 1) ≠ 95 then (⟨0, .zero, false, i + 2, mode, cs⟩, false)
  else (⟨0, { op := 2, c := bl l (i + 1) }, false, i + 2, mode, cs⟩, true)
/-- What stands at a place. -/
def tokenF (l : List UInt8) (mode cs : Int) (i : Nat) : TokD × Bool :=
  if bl l i = 92 then slashF l mode cs i
  else if inL (plainL mode) (bl l i) = true then (⟨bl l i, .zero, false, i + 1, mode, cs⟩, true)
  else (⟨0, { op := 2, c := bl l i }, false, i + 1, mode, cs⟩, true)
/-- A pattern that is read. -/
structure RdD where
  pos : Nat
  mode : Int
  case : Int
  done : List Bool
  err : Int
  place : Nat
  groups : Nat
  nodes : List NodeD
/-- A branch: its pieces; may the last one be repeated? -/
structure BrD where
  kids : List Nat
  may : Bool
def RdD.wrong (r : RdD) (e : Int) (i : Nat) : RdD := if r.err = 0 then { r with err := e, place := i } else r
def RdD.node (r : RdD) (n : NodeD) : Nat × RdD := if 400 < r.nodes.length then (0, r) else (r.nodes.length, { r with nodes := r.nodes ++ [n] })
def RdD.row (r : RdD) (op : Int) : List Nat → Nat × RdD
  | [] => r.node { op := 1 }
  | [k] => (k, r)
  | a :: b :: ks => r.node { op := op, kids := a :: b :: ks }
def BrD.piece (b : BrD) (k : Nat) (may : Bool) : BrD := ⟨b.kids ++ [k], may⟩
def itemF (l : List UInt8) (i : Nat) : Int × Nat :=
  if bl l i ≠ 92 ∨ l.length ≤ i + 1 then (bl l i, i + 1)
  else if (letterF (bl l (i + 1))).2 = true then ((letterF (bl l (i + 1))).1, i + 2)
  else if bl l (i + 1) = 110 then (10, i + 2)
  else if inL [92, 93, 94, 45] (bl l (i + 1)) = true then (bl l (i + 1), i + 2)
  else (bl l i, i + 1)
/-- Behind small letters. -/
def skipF (l : List UInt8) : Nat → Nat → Nat
  | 0, k => k
  | f + 1, k => if k < l.length ∧ isB 108 (bl l k) = true then skipF l f (k + 1) else k
def nameF (l : List UInt8) (i : Nat) : SetD × Nat × Bool :=
  if l.length ≤ i + 1 ∨ bl l i ≠ 91 ∨ bl l (i + 1) ≠ 58 then (.zero, 0, false)
  else if l.length ≤ skipF l l.length (i + 2) + 1 ∨ bl l (skipF l l.length (i + 2)) ≠ 58 ∨ bl l (skipF l l.length (i + 2) + 1) ≠ 93 then (.zero, 0, false)
  else (setJ (nameP ((l.drop (i + 2)).take (skipF l l.length (i + 2) - (i + 2)))), skipF l l.length (i + 2) + 2, nameIs ((l.drop (i + 2)).take (skipF l l.length (i + 2) - (i + 2))))
/-- All bytes from one on, so many. -/
def SetD.adds (x : SetD) (c : Int) : Nat → SetD
  | 0 => x
  | n + 1 => (x.adds c n).add (c + n)
/-- The last byte of a range, and where it ends. -/
def highF (l : List UInt8) (low : Int) (k : Nat) : Int × Nat := if k + 1 < l.length ∧ bl l k = 45 ∧ bl l (k + 1) ≠ 93 then itemF l (k + 1) else (low, k)
def collL (l : List UInt8) (nt : Bool) : Nat → SetD → Bool → Bool → Nat → Option (SetD × Nat × Bool)
  | 0, _, _, _, _ => none
  | f + 1, set, falls, first, i =>
    if l.length ≤ i then none
    else if bl l i = 93 ∧ first = false then some (if nt = true then set.not else set, i + 1, falls)
    else if (nameF l i).2.2 = true then collL l nt f (set.both (nameF l i).1) falls false (nameF l i).2.1
    else collL l nt f (set.adds (itemF l i).1 ((highF l (itemF l i).1 (itemF l i).2).1 + 1 - (itemF l i).1).toNat)
      (falls || decide ((highF l (itemF l i).1 (itemF l i).2).1 < (itemF l i).1)) false (highF l (itemF l i).1 (itemF l i).2).2
def caretB (l : List UInt8) (i : Nat) : Bool := decide (i < l.length) && bl l i == 94
def RdD.collection (r : RdD) (l : List UInt8) (o : Nat) : SetD × Nat × RdD :=
  match collL l (caretB l (o + 1)) (l.length + 1) .zero false true (if caretB l (o + 1) = true then o + 2 else o + 1) with
  | none => (.zero, 0, r)
  | some (s, e, falls) => (s, e, if falls = true then r.wrong 30 o else r)
def numL (l : List UInt8) : Nat → Int → Nat → Int × Nat
  | 0, n, k => (n, k)
  | f + 1, n, k => if k < l.length ∧ digitB (bl l k) = true then numL l f (10 * n + (bl l k - 48)) (k + 1) else (n, k)
/-- Digits at a place, three at most. -/
def numberF (l : List UInt8) (i : Nat) : Int × Nat × Bool := ((numL l 4 0 i).1, (numL l 4 0 i).2, decide (i < (numL l 4 0 i).2) && decide ((numL l 4 0 i).2 - i ≤ 3))
/-- Behind the least bound. -/
def bracesB (l : List UInt8) (lz : Bool) (low : Int) (mx : Int) (i : Nat) : Option (NodeD × Nat) :=
  let j := if i < l.length ∧ bl l i = 92 then i + 1 else i
  if l.length ≤ j ∨ bl l j ≠ 125 ∨ 60 < low ∨ 60 < mx ∨ (0 ≤ mx ∧ mx < low) then none
  else some ({ op := 7, min := low, max := mx, lzy := lz }, j + 1)
def bracesA (l : List UInt8) (lz : Bool) (i : Nat) : Option (NodeD × Nat) :=
  let q := numberF l i
  if i < q.2.1 ∧ q.2.2 = false then none
  else if q.2.1 < l.length ∧ bl l q.2.1 = 44 then
    let h := numberF l (q.2.1 + 1)
    if q.2.1 + 1 < h.2.1 ∧ h.2.2 = false then none
    else bracesB l lz q.1 (if h.2.2 = true then h.1 else -1) h.2.1
  else bracesB l lz q.1 (if q.2.2 = true then q.1 else -1) q.2.1
def bracesF (l : List UInt8) (i : Nat) : Option (NodeD × Nat) := if i < l.length ∧ bl l i = 45 then bracesA l true (i + 1) else bracesA l false i
/-- Does a branch end at a place, what is no piece passed over? -/
def endsL (l : List UInt8) (cs : Int) : Nat → Int → Nat → Bool
  | 0, _, _ => true
  | f + 1, mode, i =>
    if l.length ≤ i then true
    else if (tokenF l mode cs i).2 = true ∧ (tokenF l mode cs i).1.non = true then endsL l cs f (tokenF l mode cs i).1.mode (tokenF l mode cs i).1.next
    else (tokenF l mode cs i).2 && ((tokenF l mode cs i).1.sign == 124 || (tokenF l mode cs i).1.sign == 41)
/-- A bound of the last piece, laid. -/
def RdD.bound (r : RdD) (b : BrD) (n : NodeD) (next : Nat) : RdD × BrD :=
  let q := r.node { n with kids := [b.kids.getLastD 0] }
  ({ q.2 with pos := next }, ⟨b.kids.dropLast ++ [q.1], false⟩)
def RdD.many (r : RdD) (l : List UInt8) (b : BrD) (sign : Int) (i next : Nat) : RdD × BrD :=
  if b.may = false then
    if sign = 42 then ({ (r.node { op := 2, c := sign }).2 with pos := next }, b.piece (r.node { op := 2, c := sign }).1 true)
    else (r.wrong 32 i, b)
  else if sign = 123 then
    match bracesF l next with
    | none => (r.wrong 32 i, b)
    | some (m, e) => r.bound b m e
  else r.bound b { op := 7, min := if sign = 43 then 1 else 0, max := if sign = 61 ∨ sign = 63 then 1 else -1 } next
/-- One more piece of one node. -/
def RdD.laid (r : RdD) (b : BrD) (n : NodeD) (may : Bool) : RdD × BrD := ((r.node n).2, b.piece (r.node n).1 may)
def RdD.group (rec : RdD → Option (Nat × RdD)) (r : RdD) (l : List UInt8) (b : BrD) (i : Nat) : Option (RdD × BrD) :=
  if 9 ≤ r.groups then some (r.wrong 31 i, b)
  else match rec { r with groups := r.groups + 1 } with
    | none => none
    | some (k, s) =>
      if s.err ≠ 0 then some (s, b)
      else if l.length ≤ s.pos then some (s.wrong 31 i, b)
      else some ({ s with pos := (tokenF l s.mode s.case s.pos).1.next, done := s.done.set (r.groups + 1) true }.laid b { op := 8, n := ((r.groups + 1 : Nat) : Int), kids := [k] } true)
def RdD.sign (rec : RdD → Option (Nat × RdD)) (r0 : RdD) (l : List UInt8) (b : BrD) (c : Int) (i next : Nat) : Option (RdD × BrD) :=
  let r := { r0 with pos := next }
  if c = 94 then some (if b.kids = [] then r.laid b { op := 10 } false else r.laid b { op := 2, c := c } true)
  else if c = 36 then some (if endsL l r.case (l.length + 1) r.mode next = true then r.laid b { op := 11 } false else r.laid b { op := 2, c := c } true)
  else if c = 46 then some (r.laid b { op := 3 } true)
  else if c = 60 then some (r.laid b { op := 12 } false)
  else if c = 62 then some (r.laid b { op := 13 } false)
  else if c = 126 then some (r.laid b { op := 1 } true)
  else if c = 91 then
    let q := r.collection l (next - 1)
    some (if 0 < q.2.1 then { q.2.2 with pos := q.2.1 }.laid b { op := 4, set := q.1 } true else q.2.2.laid b { op := 2, c := c } true)
  else if c = 40 then r.group rec l b i
  else some (r.many l b c i next)
/-- Pieces, till a sign that ends it. -/
def branchL (rec : RdD → Option (Nat × RdD)) (l : List UInt8) (within : Bool) : Nat → RdD → BrD → Option (RdD × BrD)
  | 0, _, _ => none
  | f + 1, r, b =>
    if r.err ≠ 0 ∨ l.length ≤ r.pos then some (r, b)
    else
      let t := (tokenF l r.mode r.case r.pos).1
      if (tokenF l r.mode r.case r.pos).2 = false then some (r.wrong 30 r.pos, b)
      else if t.non = true then branchL rec l within f { r with mode := t.mode, case := t.case, pos := t.next } b
      else if t.sign = 124 ∨ (t.sign = 41 ∧ within = true) then some (r, b)
      else if t.sign = 41 then some (r.wrong 31 r.pos, b)
      else if t.sign ≠ 0 then
        match r.sign rec l b t.sign r.pos t.next with
        | none => none
        | some (s, b2) => branchL rec l within f s b2
      else if t.node.op = 9 ∧ r.done.getD t.node.n.toNat true = false then some (r.wrong 31 r.pos, b)
      else
        let q := { r with pos := t.next }.laid b t.node (t.node.op != 14 && t.node.op != 15)
        branchL rec l within f q.1 q.2
def branchF (rec : RdD → Option (Nat × RdD)) (l : List UInt8) (within : Bool) (r : RdD) : Option (Nat × RdD) :=
  match branchL rec l within (l.length + 1) r ⟨[], false⟩ with
  | none => none
  | some (s, b) => some (s.row 5 b.kids)
/-- More branches, behind signs. -/
def branchesL (rec : RdD → Option (Nat × RdD)) (l : List UInt8) (within : Bool) : Nat → RdD → List Nat → Option (RdD × List Nat)
  | 0, _, _ => none
  | f + 1, r, ks =>
    if r.err ≠ 0 ∨ l.length ≤ r.pos then some (r, ks)
    else if (tokenF l r.mode r.case r.pos).1.sign ≠ 124 then some (r, ks)
    else match branchF rec l within { r with pos := (tokenF l r.mode r.case r.pos).1.next } with
      | none => none
      | some (k, s) => branchesL rec l within f s (ks ++ [k])
def branchesF (l : List UInt8) : Nat → Bool → RdD → Option (Nat × RdD)
  | 0, _, _ => none
  | d + 1, within, r =>
    match branchF (branchesF l d true) l within r with
    | none => none
    | some (k, s) =>
      match branchesL (branchesF l d true) l within (l.length + 1) s [k] with
      | none => none
      | some (s2, ks) => some (s2.row 6 ks)
structure PatD where
  nodes : List NodeD
  root : Nat
  groups : Nat
  case : Int
def PatD.zero : PatD := ⟨[], 0, 0, 0⟩
def RdD.start : RdD := ⟨0, 109, 0, List.replicate 10 false, 0, 0, 0, []⟩
/-- A pattern; its error; where that is. -/
def parseF (l : List UInt8) : Option (PatD × Int × Nat) :=
  if 300 < l.length then some (.zero, 33, 0)
  else match branchesF l 11 false .start with
    | none => none
    | some (k, r) =>
      if r.err ≠ 0 then some (.zero, r.err, r.place)
      else if 400 < r.nodes.length then some (.zero, 33, 0)
      else some (⟨r.nodes, k, r.groups, r.case⟩, 0, 0)
end Go.Proofs.Ytigbfgmgdfnhcaa
namespace Go.Proofs.Ytigbfgmgdfnhcaa
open Go.RowKit
structure InstD where
  op : Int
  c : Int := 0
  set : SetD := SetD.zero
  x : Int := 0
  y : Int := 0
  deriving DecidableEq
def InstD.zero : InstD := { op := 0 }
structure WrD where
  code : List InstD
  r : Nat
  long : Bool
def WrD.lay (w : WrD) (i : InstD) : Nat × WrD := if 2000 < w.code.length then (0, { w with long := true }) else (w.code.length, { w with code := w.code ++ [i] })
def WrD.put (w : WrD) (k : Nat) (x y : Int) : WrD := { w with code := w.code.set k { w.code.getD k .zero with x := x, y := y } }
def WrD.to (w : WrD) (k out : Nat) (lzy : Bool) : WrD := if lzy = true then w.put k (out : Int) ((k : Int) + 1) else w.put k ((k : Int) + 1) (out : Int)
def WrD.round (rec : Nat → WrD → Option WrD) (w : WrD) (kid : Nat) : Option (Nat × WrD) :=
  match rec kid ({ (w.lay { op := 4 }).2 with r := (w.lay { op := 4 }).2.r + 1 }.lay { op := 12, x := ((w.lay { op := 4 }).2.r : Int) }).2 with
  | none => none
  | some s => some ((w.lay { op := 4 }).1, (s.lay { op := 13, x := ((w.lay { op := 4 }).2.r : Int) }).2)
def manyA (rec : Nat → WrD → Option WrD) (kid : Nat) : Nat → WrD → Option WrD
  | 0, w => some w
  | n + 1, w => if w.long = true then some w else match rec kid w with
    | none => none
    | some s => manyA rec kid n s
def manyB (rec : Nat → WrD → Option WrD) (kid : Nat) : Nat → WrD → List Nat → Option (WrD × List Nat)
  | 0, w, l => some (w, l)
  | n + 1, w, l => if w.long = true then some (w, l) else match w.round rec kid with
    | none => none
    | some (k, s) => manyB rec kid n s (l ++ [k])
def waysTo (lzy : Bool) (w : WrD) (l : List Nat) : WrD := l.foldl (fun w k => w.to k w.code.length lzy) w
def WrD.many (rec : Nat → WrD → Option WrD) (w : WrD) (n : NodeD) : Option WrD :=
  match manyA rec (n.kids.headD 0) n.min.toNat w with
  | none => none
  | some s =>
    if s.long = true then some s
    else if n.max < 0 then match s.round rec (n.kids.headD 0) with
      | none => none
      | some (k, s2) => some ((s2.lay { op := 5, x := (k : Int) }).2.to k (s2.lay { op := 5, x := (k : Int) }).2.code.length n.lzy)
    else match manyB rec (n.kids.headD 0) (n.max - n.min).toNat s [] with
      | none => none
      | some (s2, l) => some (waysTo n.lzy s2 l)
def altL (rec : Nat → WrD → Option WrD) : List Nat → WrD → List Nat → Option (WrD × List Nat)
  | [], w, l => some (w, l)
  | [k], w, l => if w.long = true then some (w, l) else match rec k w with
    | none => none
    | some s => some (s, l)
  | k :: k2 :: ks, w, l => if w.long = true then some (w, l) else match rec k (w.lay { op := 4 }).2 with
    | none => none
    | some s => altL rec (k2 :: ks) ((s.lay { op := 5 }).2.to (w.lay { op := 4 }).1 (s.lay { op := 5 }).2.code.length false) (l ++ [(s.lay { op := 5 }).1])
def WrD.outs (w : WrD) (l : List Nat) : WrD := l.foldl (fun w k => { w with code := w.code.set k { w.code.getD k .zero with x := (w.code.length : Int) } }) w
def WrD.alt (rec : Nat → WrD → Option WrD) (w : WrD) (ks : List Nat) : Option WrD :=
  match altL rec ks w [] with
  | none => none
  | some (s, l) => some (s.outs l)
def catL (rec : Nat → WrD → Option WrD) : List Nat → WrD → Option WrD
  | [], w => some w
  | k :: ks, w => match rec k w with
    | none => none
    | some s => catL rec ks s
def WrD.node (rec : Nat → WrD → Option WrD) (w : WrD) (n : NodeD) : Option WrD :=
  if w.long = true then some w
  else if n.op = 2 then some (w.lay { op := 1, c := n.c }).2
  else if n.op = 3 then some (w.lay { op := 2 }).2
  else if n.op = 4 then some (w.lay { op := 3, set := n.set }).2
  else if n.op = 5 then catL rec n.kids w
  else if n.op = 6 then w.alt rec n.kids
  else if n.op = 7 then w.many rec n
  else if n.op = 8 then match rec (n.kids.headD 0) (w.lay { op := 6, x := 2 * n.n }).2 with
    | none => none
    | some s => some (s.lay { op := 6, x := 2 * n.n + 1 }).2
  else if n.op = 9 then some (w.lay { op := 7, x := n.n }).2
  else if n.op = 14 then some (w.lay { op := 6, x := 20 }).2
  else if n.op = 15 then some (w.lay { op := 6, x := 21 }).2
  else if n.op = 10 ∨ n.op = 11 ∨ n.op = 12 ∨ n.op = 13 then some (w.lay { op := n.op - 2 }).2
  else some w
def nodeF (ns : List NodeD) : Nat → Nat → WrD → Option WrD
  | 0, _, _ => none
  | f + 1, k, w => w.node (nodeF ns f) (ns.getD k .zero)
/-- Has a node as many kids as it has to have? -/
def kidsB (n : NodeD) : Bool :=
  if n.op = 7 ∨ n.op = 8 then n.kids.length == 1 else if n.op = 5 ∨ n.op = 6 then decide (2 ≤ n.kids.length)
  else n.kids.isEmpty && decide (1 ≤ n.op) && decide (n.op ≤ 15)
def singleB (ns : List NodeD) (k : Nat) : Bool :=
  if (ns.getD k .zero).op = 2 ∨ (ns.getD k .zero).op = 3 ∨ (ns.getD k .zero).op = 4 ∨ (ns.getD k .zero).op = 8 ∨ (ns.getD k .zero).op = 9 ∨ (ns.getD k .zero).op = 1 then true
  else if (ns.getD k .zero).op = 5 then (ns.getD k .zero).kids.all fun j => (ns.getD j .zero).op == 2
  else false
def fineN (p : PatD) (n : NodeD) : Bool :=
  kidsB n && !(decide (n.op = 8 ∨ n.op = 9) && (decide (n.n < 1) || decide ((p.groups : Int) < n.n))) &&
  !(n.op == 7 && (decide (n.min < 0) || decide (60 < n.min) || decide (60 < n.max) || decide (0 ≤ n.max) && decide (n.max < n.min)))
def soundL (rec : Nat → List Bool → Option (Bool × List Bool)) : List Nat → List Bool → Option (Bool × List Bool)
  | [], s => some (true, s)
  | k :: ks, s => match rec k s with
    | none => none
    | some (false, s2) => some (false, s2)
    | some (true, s2) => soundL rec ks s2
def soundF (p : PatD) : Nat → Nat → List Bool → Option (Bool × List Bool)
  | 0, _, _ => none
  | f + 1, k, s =>
    if p.nodes.length ≤ k ∨ s.getD k true = true then some (false, s)
    else if fineN p (p.nodes.getD k .zero) = false then some (false, s.set k true)
    else match soundL (soundF p f) (p.nodes.getD k .zero).kids (s.set k true) with
      | none => none
      | some (false, s2) => some (false, s2)
      | some (true, s2) => some ((p.nodes.getD k .zero).op != 7 || singleB p.nodes ((p.nodes.getD k .zero).kids.headD 0), s2)
def soundP (p : PatD) : Option Bool :=
  if 9 < p.groups then some false else match soundF p (p.nodes.length + 1) p.root (List.replicate p.nodes.length false) with
    | none => none
    | some (b, _) => some b
structure ProgD where
  code : List InstD
  rounds : Int
  fold : Bool
def ProgD.zero : ProgD := ⟨[], 0, false⟩
def compileF (p : PatD) (fold : Bool) : Option (ProgD × Int) :=
  match soundP p with
  | none => none
  | some false => some (.zero, 1)
  | some true => match nodeF p.nodes (p.nodes.length + 1) p.root ⟨[], 0, false⟩ with
    | none => none
    | some w =>
      if (w.lay { op := 14 }).2.long = true ∨ 2000 < (w.lay { op := 14 }).2.code.length then some (.zero, 33)
      else some (⟨(w.lay { op := 14 }).2.code, (w.lay { op := 14 }).2.r, if p.case = 0 then fold else p.case == 1⟩, 0)
/-- A text as a pattern's program; of what is none nothing. -/
def compiledF (l : List UInt8) (fold : Bool) : Option ProgD :=
  match parseF l with
  | none => none
  | some (p, e, _) => if e ≠ 0 then some .zero else match compileF p fold with
    | none => none
    | some (q, _) => some q
end Go.Proofs.Ytigbfgmgdfnhcaa
namespace Go.Proofs.Ytigbfgmgdfnhcaa
open Go.RowKit
structure TryD where
  pc : Nat
  pos : Nat
  slots : List Int
  rounds : List Int
structure MatchD where
  from_ : Int
  to_ : Int
  beg : List Int
  end_ : List Int
  deriving DecidableEq
def MatchD.zero : MatchD := ⟨0, 0, List.replicate 10 0, List.replicate 10 0⟩
def hasD (s : SetD) (c : Int) : Bool := hasB s.a0 s.a1 s.a2 s.a3 c
def takesF (fold : Bool) (i : InstD) (c : Int) : Bool :=
  if i.op = 1 then sameB c i.c fold else if i.op = 3 then hasD i.set c || fold && (hasD i.set (smallI c) || hasD i.set (greatI c)) else true
def wordAt (l : List UInt8) (p : Int) : Bool := decide (0 ≤ p) && decide (p < l.length) && wordB (bl l p.toNat)
def sameRun (fold : Bool) (l : List UInt8) (a b : Nat) : Nat → Bool
  | 0 => true
  | n + 1 => sameB (bl l a) (bl l b) fold && sameRun fold l (a + 1) (b + 1) n
/-- Behind what slots remember. -/
def backF (fold : Bool) (l : List UInt8) (t : TryD) (x : Nat) : Option Nat :=
  if t.slots.getD (2 * x) 0 < 0 ∨ t.slots.getD (2 * x + 1) 0 < t.slots.getD (2 * x) 0 then none
  else if (l.length : Int) - t.pos < t.slots.getD (2 * x + 1) 0 - t.slots.getD (2 * x) 0 then none
  else if sameRun fold l t.pos (t.slots.getD (2 * x) 0).toNat (t.slots.getD (2 * x + 1) 0 - t.slots.getD (2 * x) 0).toNat = true then some (t.pos + (t.slots.getD (2 * x + 1) 0 - t.slots.getD (2 * x) 0).toNat)
  else none
def looksF (l : List UInt8) (p : Nat) (op : Int) : Bool :=
  if op = 8 then p == 0 else if op = 9 then p == l.length
  else if op = 10 then wordAt l p && !wordAt l ((p : Int) - 1) else wordAt l ((p : Int) - 1) && !wordAt l p
/-- An instruction; none: it fails. -/
def stepF (fold : Bool) (l : List UInt8) (t0 : TryD) (i : InstD) (ts : List TryD) : Option (TryD × List TryD) :=
  let t := { t0 with pc := t0.pc + 1 }
  if i.op = 1 ∨ i.op = 2 ∨ i.op = 3 then
    if t.pos = l.length ∨ takesF fold i (bl l t.pos) = false then none else some ({ t with pos := t.pos + 1 }, ts)
  else if i.op = 4 then some ({ t with pc := i.x.toNat }, ts ++ [{ t with pc := i.y.toNat }])
  else if i.op = 5 then some ({ t with pc := i.x.toNat }, ts)
  else if i.op = 6 then some ({ t with slots := t.slots.set i.x.toNat t.pos }, ts)
  else if i.op = 7 then match backF fold l t i.x.toNat with
    | none => none
    | some p => some ({ t with pos := p }, ts)
  else if i.op = 12 then some ({ t with rounds := t.rounds.set i.x.toNat t.pos }, ts)
  else if i.op = 13 then if t.rounds.getD i.x.toNat 0 = t.pos then none else some (t, ts)
  else if looksF l t.pos i.op = true then some (t, ts) else none
/-- The match of a try. -/
def matchF (t : TryD) (at_ : Nat) : MatchD :=
  let f := if t.slots.getD 20 0 < 0 then (at_ : Int) else t.slots.getD 20 0
  let e := if t.slots.getD 21 0 < 0 then (t.pos : Int) else t.slots.getD 21 0
  let good := fun (n : Nat) => decide (0 ≤ t.slots.getD (2 * n) 0) && decide (t.slots.getD (2 * n) 0 ≤ t.slots.getD (2 * n + 1) 0)
  ⟨f, max f e, f :: (List.range 9).map (fun k => if good (k + 1) = true then t.slots.getD (2 * (k + 1)) 0 else -1), max f e :: (List.range 9).map (fun k => if good (k + 1) = true then t.slots.getD (2 * (k + 1) + 1) 0 else -1)⟩
structure ResD where
  m : MatchD
  left : Int
  is : Bool
  err : Int
def ResD.zero (e : Int) : ResD := ⟨.zero, 0, false, e⟩
def runF (p : ProgD) (l : List UInt8) (at_ : Nat) : Nat → Nat → Option TryD → List TryD → Option ResD
  | 0, _, _, _ => none
  | f + 1, steps, none, ts => match ts.getLast? with
    | none => some ⟨.zero, steps, false, 0⟩
    | some t => runF p l at_ f steps (some t) ts.dropLast
  | f + 1, steps, some t, ts =>
    match p.code[t.pc]? with
    | none => runF p l at_ f steps none ts
    | some i => match steps with
      | 0 => some (.zero 50)
      | s + 1 => if i.op = 14 then some ⟨matchF t at_, s, true, 0⟩ else match stepF p.fold l t i ts with
        | none => runF p l at_ f s none ts
        | some (t2, ts2) => runF p l at_ f s (some t2) ts2
def placeB (x : Int) (n : Int) : Bool := decide (0 ≤ x) && decide (x < n)
def fineB (p : ProgD) (i : InstD) : Bool :=
  if i.op = 4 then placeB i.x p.code.length && placeB i.y p.code.length else if i.op = 5 then placeB i.x p.code.length else if i.op = 6 then placeB i.x 22
  else if i.op = 7 then placeB i.x 10 else if i.op = 12 ∨ i.op = 13 then placeB i.x p.rounds else decide (1 ≤ i.op) && decide (i.op ≤ 14)
def soundB (p : ProgD) : Bool :=
  decide (1 ≤ p.code.length) && decide (p.code.length ≤ 2000) && decide (0 ≤ p.rounds) && decide (p.rounds ≤ 2000) && p.code.all (fineB p) &&
  ((p.code.getLastD .zero).op == 14 || (p.code.getLastD .zero).op == 5)
def firstT (at_ : Nat) (rounds : Int) : TryD := ⟨0, at_, (at_ : Int) :: List.replicate 21 (-1), List.replicate rounds.toNat 0⟩
def atF (p : ProgD) (l : List UInt8) (at_ steps : Int) : Option ResD :=
  if soundB p = false ∨ steps < 0 ∨ 5000 < steps ∨ at_ < 0 ∨ (l.length : Int) < at_ then some (.zero 1)
  else runF p l at_.toNat (3 * steps.toNat + 4) steps.toNat none [firstT at_.toNat p.rounds]
def fromF (p : ProgD) (l : List UInt8) : Nat → Int → Int → Option ResD
  | 0, _, _ => none
  | f + 1, at_, steps => match atF p l at_ steps with
    | none => none
    | some r => if r.err ≠ 0 ∨ r.is = true ∨ at_ = l.length then some r else fromF p l f (at_ + 1) r.left
end Go.Proofs.Ytigbfgmgdfnhcaa
namespace Go.Proofs.Ytigbfgmgdfnhcaa
open Go.RowKit
theorem bl_at {s : ByteArray} {k : Nat} (h : k < s.size) : (s[k].toNat : Int) = bl s.data.toList k := by
  unfold bl
  have h2 : k < s.data.toList.length := by simpa using h
  rw [List.getElem?_eq_getElem h2]
  rfl
theorem bl_rng (l : List UInt8) (k : Nat) : 0 ≤ bl l k ∧ bl l k ≤ 255 := by
  unfold bl
  have := UInt8.toNat_lt ((l[k]?).getD 0)
  omega
theorem inL_take {l : List UInt8} {c : Int} {k : Nat} (h : k < l.length) : inL (l.take (k + 1)) c = (inL (l.take k) c || bl l k == c) := by
  unfold inL bl
  rw [List.take_succ_eq_append_getElem h, List.any_append, List.getElem?_eq_getElem h]
  simp
theorem inL_hit {l : List UInt8} {c : Int} {k : Nat} (h : k < l.length) (e : (bl l k == c) = true) : inL l c = true := by
  unfold inL
  rw [List.any_eq_true]
  refine ⟨l[k], List.getElem_mem h, ?_⟩
  unfold bl at e
  rw [List.getElem?_eq_getElem h] at e
  exact e
set_option maxHeartbeats 1000000 in
theorem in_any (s : ByteArray) (c : Int) (w : World) (hs : s.size ≤ 140737488351232) :
    Calls Try.prog 79 #[.string s, .int .u8 c] w fun e w' => e = .returned (.bool (inL s.data.toList c)) ∧ w = w' := by
  have hl : s.data.toList.length = s.size := by simp
  have HL := Lib.hid hl
  clear hl
  go_enter Try.func79, Try.ntmps79
  go_wp2
  go_loop [5] (fun i => ∃ k : Nat, k ≤ s.size ∧ i = .int .i64 k ∧ Hid (inL (s.data.toList.take k) c = false)) (fun i => s.size - (intOf i).toNat)
  case atStart => exact ⟨0, by omega, rfl, Lib.hid (by simp [inL])⟩
  case round =>
    obtain ⟨k, hk, rfl, hT⟩ := hrel
    by_cases hlt : k < s.size
    · have hb := Lib.hid (bl_at hlt)
      have Ht := Lib.hid (inL_take (c := c) (show k < s.data.toList.length by rw [HL.out]; exact hlt))
      have Hh := Lib.hid (fun h => inL_hit (c := c) (show k < s.data.toList.length by rw [HL.out]; exact hlt) h)
      rw [← hb.out] at Ht Hh
      cases hbc : ((s[k].toNat : Int) == c)
      · go_wp2
        go_round
        case rel => exact ⟨k + 1, by omega, by go_num, Lib.hid (by rw [Ht.out, hT.out, hbc]; rfl)⟩
        case measure => simp [intOf]; omega
      · go_wp2
        go_ret
        exact ⟨ret_bool (by rw [Hh.out hbc]), rfl⟩
    · obtain rfl : k = s.size := by omega
      go_wp2
      go_ret
      refine ⟨ret_bool ?_, rfl⟩
      have := hT.out
      rw [List.take_of_length_le (by rw [HL.out]; omega)] at this
      rw [this]
theorem rplain_any (m : Int) (w : World) :
    Calls Try.prog 80 #[.int .u8 m] w fun e w' => e = .returned (.string ⟨(plainL m).toArray⟩) ∧ w = w' := by
  by_cases h1 : m = 118
  · subst h1
    go_enter Try.func80, Try.ntmps80
    go_wp2
    go_ret
    exact ⟨rfl, rfl⟩
  by_cases h2 : m = 109
  · subst h2
    go_enter Try.func80, Try.ntmps80
    go_wp2
    go_ret
    exact ⟨rfl, rfl⟩
  by_cases h3 : m = 77
  · subst h3
    go_enter Try.func80, Try.ntmps80
    go_wp2
    go_ret
    exact ⟨rfl, rfl⟩
  have e : plainL m = [] := by unfold plainL; rw [if_neg h1, if_neg h2, if_neg h3]
  rw [e]
  have g1 : (m == 118) = false := by simpa using h1
  have g2 : (m == 109) = false := by simpa using h2
  have g3 : (m == 77) = false := by simpa using h3
  clear h1 h2 h3 e
  go_enter Try.func80, Try.ntmps80
  go_wp2
  go_ret
  exact ⟨rfl, rfl⟩
theorem letter_any2 (c : Int) (w : World) :
    Calls Try.prog 92 #[.int .u8 c] w fun e w' => e = .returned (.tuple #[.int .u8 (letterF c).1, .bool (letterF c).2]) ∧ w = w' := by
  by_cases h1 : c = 101
  · subst h1
    go_enter Try.func92, Try.ntmps92
    go_wp2
    go_ret2
    exact ⟨rfl, rfl⟩
  by_cases h2 : c = 116
  · subst h2
    go_enter Try.func92, Try.ntmps92
    go_wp2
    go_ret2
    exact ⟨rfl, rfl⟩
  by_cases h3 : c = 114
  · subst h3
    go_enter Try.func92, Try.ntmps92
    go_wp2
    go_ret2
    exact ⟨rfl, rfl⟩
  by_cases h4 : c = 98
  · subst h4
    go_enter Try.func92, Try.ntmps92
    go_wp2
    go_ret2
    exact ⟨rfl, rfl⟩
  have e : letterF c = (0, false) := by unfold letterF; rw [if_neg h1, if_neg h2, if_neg h3, if_neg h4]
  rw [e]
  have g1 : (c == 101) = false := by simpa using h1
  have g2 : (c == 116) = false := by simpa using h2
  have g3 : (c == 114) = false := by simpa using h3
  have g4 : (c == 98) = false := by simpa using h4
  clear h1 h2 h3 h4 e
  go_enter Try.func92, Try.ntmps92
  go_wp2
  go_ret2
  exact ⟨rfl, rfl⟩
end Go.Proofs.Ytigbfgmgdfnhcaa
