/- Contracts of the document's answer for expand: a byte as it is said; what a match remembers; laying bytes. -/
import Derived.Test.YtalgdihaeglleaaExpF
import Derived.Test.YtalgdihaeglleaaRefA
namespace Go.Proofs.Ytalgdihaeglleaa
open Go.RowKit

def howM (c : Int) : Option Bool := if c = 117 ∨ c = 85 then some true else if c = 108 ∨ c = 76 then some false else none

theorem cased_any (c how : Int) (h0 : 0 ≤ c) (h1 : c ≤ 255) (w : World) :
    Calls Try.prog 21 #[.int .u8 c, .int .u8 how] w fun e w' => e = .returned (.int .u8 (caseI (howM how) c)) ∧ w = w' := by
  have hh : (how = 117 ∨ how = 85) ∨ (how = 108 ∨ how = 76) ∨ (how ≠ 117 ∧ how ≠ 85 ∧ how ≠ 108 ∧ how ≠ 76) := by omega
  rcases hh with (rfl | rfl) | (rfl | rfl) | ⟨n1, n2, n3, n4⟩
  all_goals go_enter Try.func21, Try.ntmps21
  all_goals go_wp2_with (first | (go_at_call 24; refine (rGreat_any c h0 h1 _).mono ?_; rintro e w' ⟨rfl, rfl⟩) | (go_at_call 25; refine (rSmall_any c h0 h1 _).mono ?_; rintro e w' ⟨rfl, rfl⟩))
  all_goals go_ret
  all_goals refine ⟨ret_int ?_, rfl⟩
  all_goals first | rfl | (simp [howM, caseI, n1, n2, n3, n4]; done) | (exfalso; simp_all; done)

theorem rgroup_any (s : ByteArray) (cs : Array Value) (mb me : Nat → Int) (n : Int) (w : World) (hm : IsMatch cs mb me) (hs : s.size ≤ maxLen) :
    Calls Try.prog 18 #[.string s, .agg cs, .int .i64 n] w fun e w' => e = .returned (.string (groupB s mb me n)) ∧ Below w.heap.size w w' := by
  unfold maxLen at hs
  by_cases h0 : n < 0
  · go_enter Try.func18, Try.ntmps18
    go_wp2
    go_ret
    exact ⟨ret_str (by simp [groupB, h0]), by (repeat (first | exact Below.refl _ _ | assumption | refine Below.drew ?_ | refine Below.alloc ?_ (by first | exact Nat.le_refl _ | omega | (simp; done) | (simp; omega)) _ | refine Below.setCell ?_ (by first | exact Nat.le_refl _ | omega | (simp; done) | (simp; omega)) _))⟩
  · by_cases h9 : 9 < n
    · go_enter Try.func18, Try.ntmps18
      go_wp2
      go_ret
      exact ⟨ret_str (by simp [groupB, h9]), by (repeat (first | exact Below.refl _ _ | assumption | refine Below.drew ?_ | refine Below.alloc ?_ (by first | exact Nat.le_refl _ | omega | (simp; done) | (simp; omega)) _ | refine Below.setCell ?_ (by first | exact Nat.le_refl _ | omega | (simp; done) | (simp; omega)) _))⟩
    · obtain ⟨j, rfl⟩ := Int.eq_ofNat_of_zero_le (by omega : 0 ≤ n)
      have hj : j < 10 := by omega
      have e1 := hm.b j hj
      have e2 := hm.e j hj
      have c1 : (w.alloc (.cells cs 25)).cell? ⟨w.heap.size, 2 + j, none⟩ = some (.int .i64 (mb j)) := by rw [World.cell?_alloc_at _ _ _ _ rfl]; exact e1
      have c2 : (w.alloc (.cells cs 25)).cell? ⟨w.heap.size, 12 + j, none⟩ = some (.int .i64 (me j)) := by rw [World.cell?_alloc_at _ _ _ _ rfl]; exact e2
      have hg : groupB s mb me (j : Int) = if mb j < 0 ∨ me j < mb j ∨ (s.size : Int) < me j then ⟨#[]⟩ else s.extract (mb j).toNat (me j).toNat := by
        unfold groupB; rw [if_neg (by omega)]; simp
      have Hg := Lib.hid hg; clear hg
      generalize mb j = x at *
      generalize me j = y at *
      have hj0 : (0 : Int) ≤ (j : Int) := by omega
      have hj1 : (j : Int) < 10 := by omega
      clear e1 e2 hm h0 h9 hj
      have hB : From w (w.alloc (.cells cs 25)) := (Below.refl _ _).alloc (Nat.le_refl _) _
      have HB := Lib.hid hB; clear hB
      go_enter Try.func18, Try.ntmps18
      go_wp2
      all_goals go_ret
      all_goals refine ⟨ret_str ?_, HB.out⟩
      all_goals rw [Hg.out]
      all_goals first | (rw [if_pos (by omega)]; done) | (rw [if_neg (by omega)]; done) | skip

def nextC : Option Bool → Int
  | none => 0
  | some true => 117
  | some false => 108
def allC : Option Bool → Int
  | none => 0
  | some true => 85
  | some false => 76

/-- The document's writer in block b: all lines lie in one row, the one that is begun last. -/
structure RfAt (w : World) (b : Nat) (dv : Value) (x : Wr) : Prop where
  blk : w.heap[b]? = some (.cells #[dv, .int .u8 (nextC x.next), .int .u8 (allC x.all)] 48 (0, 0))
  hd : w.ownsRow 0 9 1 dv (x.done.length + 1) (strsV (x.done ++ [x.line]))
  nd : dv.ownBlock ≠ some b

theorem RfAt.form {w : World} {b : Nat} {dv : Value} {x : Wr} (h : RfAt w b dv x) : ∃ g cap, dv = .slice (some ⟨g, 0, none⟩) (x.done.length + 1) cap ∧ g < w.heap.size ∧ g ≠ b := by
  obtain ⟨g, cap, e, _, hg⟩ := h.hd.form (by omega)
  refine ⟨g, cap, e, hg, fun hh => h.nd ?_⟩
  rw [e]; simp [Value.ownBlock, hh]

/-- The last one of an owned row is written anew. -/
theorem ownsRow_last {w : World} {base : Nat} {e : TypeId} {g cap n : Nat} {xs : List Value} {u v : Value} (h : w.ownsRow base e 1 (.slice (some ⟨g, 0, none⟩) (n + 1) cap) (n + 1) (xs ++ [u])) :
    (w.setCell ⟨g, n, none⟩ v).ownsRow base e 1 (.slice (some ⟨g, 0, none⟩) (n + 1) cap) (n + 1) (xs ++ [v]) := by
  obtain ⟨h1, h2⟩ := h
  rcases h2 with ⟨h, _⟩ | ⟨g', cap', cur, hv, hb, hg, hnc, hm, hsz, htk⟩
  · cases h
  · simp only [Value.slice.injEq, Option.some.injEq, Addr.mk.injEq] at hv
    obtain ⟨⟨rfl, _⟩, _, rfl⟩ := hv
    have hl : xs.length = n := by simpa using h1
    refine ⟨by simp [hl], .inr ⟨g, cap, cur.setIfInBounds n v, rfl, hb, heap_set hg n v, hnc, hm, by simpa using hsz, ?_⟩⟩
    have hlt : n < cur.toList.length := by simp; omega
    simp only [Nat.mul_one] at htk ⊢
    apply List.ext_getElem?
    intro i
    have hti : (cur.toList.take (n + 1))[i]? = (xs ++ [u])[i]? := by rw [htk]
    rcases Nat.lt_trichotomy i n with hi | rfl | hi
    · rw [List.getElem?_take_of_lt (by omega)] at hti ⊢
      rw [List.getElem?_append_left (by omega)] at hti ⊢
      rw [← hti]
      simp only [Array.getElem?_toList]
      rw [Array.getElem?_setIfInBounds_ne (by omega)]
    · rw [List.getElem?_take_of_lt (by omega), List.getElem?_append_right (by omega)]
      simp only [Array.getElem?_toList, hl, Nat.sub_self, List.getElem?_cons_zero]
      rw [Array.getElem?_setIfInBounds_self_of_lt (by simpa using hlt)]
    · rw [List.getElem?_eq_none (by simp; omega), List.getElem?_eq_none (by simp; omega)]

theorem own_one (w : World) (x : Value) (e : TypeId) : (w.alloc (.cells #[x] e)).ownsRow 0 e 1 (.slice (some ⟨w.heap.size, 0, none⟩) 1 1) 1 [x] :=
  ⟨rfl, .inr ⟨w.heap.size, 1, #[x], rfl, Nat.zero_le _, heap_alloc_new w _, Nat.le_refl _, by unfold maxLen; omega, rfl, rfl⟩⟩

/-- One byte more in the last line. -/
theorem RfAt.put {w w2 : World} {b g cap n : Nat} {y : Wr} {c : UInt8} (h : RfAt w b (.slice (some ⟨g, 0, none⟩) (n + 1) cap) { y with next := none }) (hn : y.done.length = n) (hu : Upd (fun _ => False) w w2) (hgb : g ≠ b) (u : ByteArray)
    (hv : u = ⟨(y.line ++ [caseU y.how c]).toArray⟩) : RfAt (w2.setCell ⟨g, n, none⟩ (.string u)) b (.slice (some ⟨g, 0, none⟩) (n + 1) cap) (y.put c) := by
  subst hv
  subst hn
  have h2 := ownsRow_upd h.hd hu (fun _ _ h => h)
  have e1 : strsV (y.done ++ [y.line]) = strsV y.done ++ [strV y.line] := by simp [strsV]
  rw [e1] at h2
  refine ⟨?_, ?_, h.nd⟩
  · rw [heap_set_ne _ _ (Ne.symm hgb)]
    exact hu.heap h.blk (fun h => h)
  · have := ownsRow_last (v := strV (y.line ++ [caseU y.how c])) h2
    have e2 : strsV ((y.put c).done ++ [(y.put c).line]) = strsV y.done ++ [strV (y.line ++ [caseU y.how c])] := by simp [strsV, Wr.put]
    rw [e2]
    exact this

theorem bytes_cat (a b : List UInt8) : (⟨a.toArray⟩ : ByteArray) ++ ⟨b.toArray⟩ = ⟨(a ++ b).toArray⟩ := by
  apply ByteArray.ext
  simp [ByteArray.data_append]

def RLayPost (w : World) (b : Nat) (dv : Value) (y : Wr) (e : Ending) (w' : World) : Prop :=
  e = .returned (.tuple #[]) ∧ RfAt w' b dv y ∧ Upd (fun k => k = b ∨ dv.ownBlock = some k) w w'

end Go.Proofs.Ytalgdihaeglleaa
