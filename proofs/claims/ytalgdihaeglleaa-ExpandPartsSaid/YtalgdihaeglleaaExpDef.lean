/- Plain words for a replacement: bytes laid as it is said of the next one, and of all. -/
import Derived.Test.YtalgdihaeglleaaPlain
import Derived.Test.YtalgdihaeglleaaMem
namespace Go.Proofs.Ytalgdihaeglleaa
open Go.RowKit

/-- A byte as a great or a small letter. -/
def caseI (m : Option Bool) (c : Int) : Int := match m with
  | none => c
  | some true => greatI c
  | some false => smallI c
def caseU (m : Option Bool) (c : UInt8) : UInt8 := UInt8.ofNat (caseI m c.toNat).toNat

theorem byte_rng (c : UInt8) : (0 : Int) ≤ (c.toNat : Int) ∧ (c.toNat : Int) ≤ 255 := by have := c.toNat_lt; omega

theorem caseI_rng (m : Option Bool) {c : Int} (h0 : 0 ≤ c) (h1 : c ≤ 255) : 0 ≤ caseI m c ∧ caseI m c ≤ 255 := by
  unfold caseI
  split
  · exact ⟨h0, h1⟩
  · exact greatI_rng h0 h1
  · exact smallI_rng h0 h1

theorem caseU_val (m : Option Bool) (c : UInt8) : ((caseU m c).toNat : Int) = caseI m c.toNat := by
  have hb := byte_rng c
  have h := caseI_rng m hb.1 hb.2
  unfold caseU
  rw [UInt8.toNat_ofNat_of_lt' (by show (caseI m c.toNat).toNat < 256; omega)]
  omega

theorem caseU_none (c : UInt8) : caseU none c = c := by
  apply UInt8.toNat_inj.1
  have := caseU_val none c
  simp only [caseI] at this
  omega

/-- What is laid so far: whole lines, the line that is begun, what is said of the next byte, of all. -/
structure Wr where
  done : List (List UInt8)
  line : List UInt8
  next : Option Bool
  all : Option Bool

def Wr.how (x : Wr) : Option Bool := match x.next with | some m => some m | none => x.all
def Wr.put (x : Wr) (c : UInt8) : Wr := { x with line := x.line ++ [caseU x.how c], next := none }
def Wr.lay (x : Wr) (l : List UInt8) : Wr := l.foldl Wr.put x
def Wr.cut (x : Wr) : Wr := { x with done := x.done ++ [x.line], line := [] }
def Wr.say (x : Wr) (c : Int) : Wr :=
  if c = 117 then { x with next := some true } else if c = 108 then { x with next := some false } else if c = 85 then { x with next := none, all := some true }
  else if c = 76 then { x with next := none, all := some false } else { x with next := none, all := none }

theorem Wr.lay_snoc (x : Wr) (l : List UInt8) (c : UInt8) : x.lay (l ++ [c]) = (x.lay l).put c := by simp [Wr.lay, List.foldl_append]
theorem Wr.lay_line (x : Wr) (l : List UInt8) : (x.lay l).line.length = x.line.length + l.length := by
  induction l generalizing x with
  | nil => simp [Wr.lay]
  | cons c l ih => simp only [Wr.lay, List.foldl_cons] at ih ⊢; rw [ih]; simp [Wr.put]; omega
theorem Wr.lay_done (x : Wr) (l : List UInt8) : (x.lay l).done = x.done := by
  induction l generalizing x with
  | nil => rfl
  | cons c l ih => simp only [Wr.lay, List.foldl_cons] at ih ⊢; rw [ih]; rfl

theorem take_snoc (s : ByteArray) (k : Nat) (h : k < s.size) : s.data.toList.take (k + 1) = s.data.toList.take k ++ [s[k]] := by
  rw [List.take_succ_eq_append_getElem (by simpa using h)]; rfl
end Go.Proofs.Ytalgdihaeglleaa
