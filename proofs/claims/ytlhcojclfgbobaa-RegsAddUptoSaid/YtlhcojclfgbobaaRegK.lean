/- Contract of Same of the document's answer, chapter 11. -/
import Derived.Test.YtlhcojclfgbobaaRegC
import Derived.Test.YtlhcojclfgbobaaQuiet
namespace Go.Proofs.Ytlhcojclfgbobaa
open Go.RowKit

def sameR (a b : RegD) : Bool := decide (a.lines = b.lines) && (a.whole == b.whole)
theorem sameR_self (a : RegD) : sameR a a = true := by simp [sameR]

set_option maxHeartbeats 1000000 in
set_option maxRecDepth 100000 in
theorem RSame_any (va vb : Value) (a b : RegD) (w : World) (ha : RegAt w va a) (hb : RegAt w vb b) (hla : a.lines.length ≤ 8796093021952) (hlb : b.lines.length ≤ 8796093021952) :
    Calls Try.prog 14 #[va, vb] w fun e w' => e = .returned (.bool (sameR a b)) ∧ Below w.heap.size w w' := by
  obtain ⟨la, rfl, xa, ca, rfl, hca⟩ := ha
  obtain ⟨lb, rfl, xb, cb, rfl, hcb⟩ := hb
  obtain ⟨xs, wa⟩ := a
  obtain ⟨ys, wb⟩ := b
  simp only at hca hcb hla hlb ⊢
  have CA := Lib.hid hca
  have CB := Lib.hid hcb
  clear hca hcb
  by_cases hl : xs.length = ys.length
  · by_cases hw : wa = wb
    · subst hw
      have hs : sameR ⟨xs, wa⟩ ⟨ys, wa⟩ = decide (xs = ys) := by simp [sameR]
      rw [hs]
      clear hs
      have Hl := Lib.hid hl
      rw [← hl]
      clear hl
      go_enter Try.func14, Try.ntmps14
      go_wp2
      obtain ⟨W, hW, k0, k1, hB⟩ : ∃ W, (w.alloc (Obj.cells #[.slice xa xs.length ca, .bool wa] 24)).alloc (Obj.cells #[.slice xb xs.length cb, .bool wa] 24) = W ∧ W.heap[w.heap.size]? = some (.cells #[.slice xa xs.length ca, .bool wa] 24 (0, 0)) ∧ W.heap[w.heap.size + 1]? = some (.cells #[.slice xb xs.length cb, .bool wa] 24 (0, 0)) ∧ Below w.heap.size w W :=
        ⟨_, rfl, heap_old (heap_alloc_new _ _) _, heap_new2 _ _ _ _, below_two _ _ _⟩
      rw [hW]
      clear hW
      go_loopw [5] (fun i wr => ∃ (k : Nat), k ≤ xs.length ∧ i = .int .i64 k ∧ From W wr ∧ xs.take k = ys.take k) (fun i _ => xs.length - (intOf i).toNat)
      case atStart => exact ⟨0, by omega, rfl, From.refl W, by simp⟩
      case round =>
        obtain ⟨k, hk, rfl, hF, hT⟩ := hrel
        have HF := Lib.hid hF
        have HT := Lib.hid hT
        have s0 := HF.out.cell (cell_of k0 0 (v := .slice xa xs.length ca) rfl)
        have s1 := HF.out.cell (cell_of k1 0 (v := .slice xb xs.length cb) rfl)
        clear hF hT
        by_cases hlt : k < xs.length
        · have hky : k < ys.length := by have := Hl.out; omega
          obtain ⟨b1, o1, rfl, e1⟩ := CA.out k hlt
          obtain ⟨b2, o2, rfl, e2⟩ := CB.out k hky
          have Hp := Lib.hid (same_prefix hlt hky HT.out)
          have Hq := Lib.hid (same_not hlt hky)
          replace e1 := HF.out.cell ((false_upd hB).cell e1 (fun h => h))
          replace e2 := HF.out.cell ((false_upd hB).cell e2 (fun h => h))
          simp only [strV] at e1 e2
          generalize xs[k] = p at *
          generalize ys[k] = q at *
          go_wp2
          first | (refine wq_region_from_still ?_) | (refine wq_region_from (by kernel_rfl) (by kernel_rfl) ?_)
          repeat
            first
              | ((refine WQ_skip (by rfl) ?_); (try simp only [Act.put, List.setIfInBounds_toArray, List.set_cons_zero, List.set_cons_succ]))
              | (apply WQ_val (by rfl); (focus (intro w' hC; (have g0 := From.cell hC s0; have g1 := From.cell hC s1; have g2 := From.cell hC e1; have g3 := From.cell hC e2); go_simp; (first | done | exact rfl))); (try simp only [Act.put, List.setIfInBounds_toArray, List.set_cons_zero, List.set_cons_succ]))
              | (apply WQ_call (by rfl); (focus (intro w' hC; go_simp; (first | done | exact rfl | exact ⟨rfl, rfl⟩))); (focus (intro w' hC; first | fail)); (try simp only [Act.put, List.setIfInBounds_toArray, List.set_cons_zero, List.set_cons_succ]))
          refine WQ_nil ?_
          intro wq hq
          have HF2 := Lib.hid (From.call HF.out hq)
          clear hq
          cases hpq : p == q
          · go_wp2
            go_ret
            exact ⟨ret_bool (by rw [Hq.out (by simpa using hpq)]), hB.trans (HF2.out.mono hB.size)⟩
          · go_wp2
            go_roundw
            case rel => exact ⟨k + 1, by omega, by go_num, HF2.out, Hp.out (by simpa using hpq)⟩
            case measure => simp [intOf]; omega
        · obtain rfl : k = xs.length := by omega
          have he : xs = ys := by
            have := HT.out
            rw [List.take_length, Hl.out, List.take_length] at this
            exact this
          have He := Lib.hid he
          clear he HT
          go_wp2
          go_ret
          exact ⟨ret_bool (by simp [He.out]), hB.trans (HF.out.mono hB.size)⟩
    · have hs : sameR ⟨xs, wa⟩ ⟨ys, wb⟩ = false := by simp [sameR]; intro _; exact hw
      rw [hs]
      clear hs
      rw [← hl]
      cases wa
      all_goals cases wb
      all_goals first
        | exact absurd rfl hw
        | (go_enter Try.func14, Try.ntmps14
           go_wp2
           go_ret
           exact ⟨rfl, below_two _ _ _⟩)
  · have hs : sameR ⟨xs, wa⟩ ⟨ys, wb⟩ = false := by
      simp only [sameR, Bool.and_eq_false_iff, decide_eq_false_iff_not]
      exact .inl (fun e => hl (by rw [e]))
    rw [hs]
    have hlb2 : ((xs.length : Int) != ys.length) = true := by simp; omega
    have hl3 : ¬ ((xs.length : Int) = (ys.length : Int)) := by omega
    clear hs
    go_enter Try.func14, Try.ntmps14
    go_wp2
    all_goals go_ret
    all_goals exact ⟨rfl, below_two _ _ _⟩
end Go.Proofs.Ytlhcojclfgbobaa
