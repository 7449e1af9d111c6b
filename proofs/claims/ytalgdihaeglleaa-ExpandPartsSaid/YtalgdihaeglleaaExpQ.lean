/- The walk of the law ExpandLines. -/
import Derived.Test.YtalgdihaeglleaaExpO
import Derived.Test.YtalgdihaeglleaaExpK
import Derived.Test.YtalgdihaeglleaaStop
namespace Go.Proofs.Ytalgdihaeglleaa
open Go.RowKit

theorem false_upd {w w' : World} (h : Below w.heap.size w w') : Upd (fun _ => False) w w' := Upd.of_below h (fun _ h1 h2 => by omega)

set_option maxRecDepth 100000 in
set_option maxHeartbeats 2000000 in
theorem expandLines_law {w : World} (a : Option Addr) (cp : Nat) (ts : List Tm) (ht : TmsAt w a ts) (hn : ts.length ≤ maxLen) (hx : ∀ t ∈ ts, t.text.size ≤ 140737488351232) (s : ByteArray) (hs : s.size ≤ 140737488351232) (cs : Array Value) (mb me : Nat → Int) (hm : IsMatch cs mb me) :
    Calls Try.prog 5 #[tmsV a ts.length cp, .string s, .agg cs] w fun e w' => e = .returned (.bool true) ∧ Below w.heap.size w w' := by
  cases hv : heavyB ts s
  · obtain ⟨q1, q2, q3⟩ := heavy_not hv
    have Hv := Lib.hid hv; clear hv
    unfold tmsV
    go_enter Try.func5, Try.ntmps5
    go_wp2_with (first
      | (go_at_call 10
         obtain ⟨hH, hB, hsz⟩ := match_new w cs 25
         have ht0 := TmsAt.upd ht (false_upd hB) (fun _ _ h => h)
         generalize w.alloc (.cells cs 25) = W0 at *
         refine (heavy_all a cp ts s _ ht0 hn hs hx).mono ?_; rw [Hv.out]; rintro e w1 ⟨rfl, rfl⟩)
      | (go_at_call 8; refine (known_any _).mono ?_; rintro e W1 ⟨rfl, hq⟩
         have ht1 := TmsAt.upd ht0 (false_upd hq) (fun _ _ h => h)
         have hH1 := (false_upd hq).heap hH (fun h => h)
         have hB1 := hB.trans (hq.mono hB.size)
         clear ht0 hH hB hq hsz))
    refine wp_region_seq (fun v => Upd (fun _ => False) W1 v) (fun i => i != 99) [(0, true), (1, true), (2, true), (4, true), (5, true), (6, true), (3, false), (7, false), (8, false), (9, true)] (by exact rfl) (by kernel_rfl) (by intro c a d v w h; cases d <;> exact h) ?_
    have hS : Upd (fun _ => False) W1 W1.drew := (Upd.refl _ _).drew
    (apply seq_val (o := { dst := some 15, op := Op.move (Operand.tmp 0), type := 30, pos := "law.go:34", after := #[], guard := none }) rfl (by rfl); (focus (intro w' hS'; have s0 := hS'.heap hH1 (fun h => h); go_simp; (first | done | exact rfl | (rw [if_pos (by omega)]; done)))); (focus exact hS))
    (try simp only [Act.put, List.setIfInBounds_toArray, List.set_cons_zero, List.set_cons_succ])
    (apply seq_val (o := { dst := some 16, op := Op.move (Operand.tmp 1), type := 9, pos := "law.go:34", after := #[], guard := none }) rfl (by rfl); (focus (intro w' hS'; have s0 := hS'.heap hH1 (fun h => h); go_simp; (first | done | exact rfl | (rw [if_pos (by omega)]; done)))); (focus exact hS))
    (try simp only [Act.put, List.setIfInBounds_toArray, List.set_cons_zero, List.set_cons_succ])
    (apply seq_val (o := { dst := some 17, op := Op.load 25 (Operand.tmp 5), type := 25, pos := "law.go:34", after := #[], guard := none }) rfl (by rfl); (focus (intro w' hS'; have s0 := hS'.heap hH1 (fun h => h); exact exec_load_row 25 _ rfl w.heap.size rfl 25 cs (0, 0) _ (hS'.heap hH1 (fun h => h)) rfl rfl (by rw [hm.size]; kernel_rfl))); (focus exact hS))
    (try simp only [Act.put, List.setIfInBounds_toArray, List.set_cons_zero, List.set_cons_succ])
    (apply seq_val (o := { dst := some 19, op := Op.move (Operand.tmp 0), type := 30, pos := "law.go:34", after := #[], guard := none }) rfl (by rfl); (focus (intro w' hS'; have s0 := hS'.heap hH1 (fun h => h); go_simp; (first | done | exact rfl | (rw [if_pos (by omega)]; done)))); (focus exact hS))
    (try simp only [Act.put, List.setIfInBounds_toArray, List.set_cons_zero, List.set_cons_succ])
    (apply seq_val (o := { dst := some 20, op := Op.move (Operand.tmp 1), type := 9, pos := "law.go:34", after := #[], guard := none }) rfl (by rfl); (focus (intro w' hS'; have s0 := hS'.heap hH1 (fun h => h); go_simp; (first | done | exact rfl | (rw [if_pos (by omega)]; done)))); (focus exact hS))
    (try simp only [Act.put, List.setIfInBounds_toArray, List.set_cons_zero, List.set_cons_succ])
    (apply seq_val (o := { dst := some 21, op := Op.load 25 (Operand.tmp 5), type := 25, pos := "law.go:34", after := #[], guard := none }) rfl (by rfl); (focus (intro w' hS'; have s0 := hS'.heap hH1 (fun h => h); exact exec_load_row 25 _ rfl w.heap.size rfl 25 cs (0, 0) _ (hS'.heap hH1 (fun h => h)) rfl rfl (by rw [hm.size]; kernel_rfl))); (focus exact hS))
    (try simp only [Act.put, List.setIfInBounds_toArray, List.set_cons_zero, List.set_cons_succ])
    apply seq_call (o := { dst := some 18, op := Op.call { callee := Callee.value (Operand.func 9), args := #[Operand.tmp 15, Operand.tmp 16, Operand.tmp 17], argTypes := #[30, 9, 25] }, type := 26, pos := "law.go:34", after := #[{ on := 0, ground := Ground.data }, { on := 1, ground := Ground.data }, { on := 2, ground := Ground.data }], guard := none }) (fun v w' => StrsAt w' v (expLines s mb me ts) ∧ Upd (fun _ => False) W1 w') rfl (by rfl)
    focus (go_simp; (first | done | exact rfl | exact ⟨rfl, rfl⟩))
    focus (refine (lines_any a cp ts s cs mb me _ (TmsAt.upd ht1 hS (fun _ _ h => h)) hm q2 (by omega) q3).mono ?_; rintro e w' ⟨dv, rfl, hb, ho⟩; exact ⟨dv, rfl, StrsAt.of_owns ho, hS.trans (false_upd hb)⟩)
    rintro v1 w2 ⟨hv1, hS2⟩; clear hS; have hS := hS2; clear hS2; refine ⟨fun _ => hS, ?_⟩
    (try simp only [Act.put, List.setIfInBounds_toArray, List.set_cons_zero, List.set_cons_succ])
    apply seq_call (o := { dst := some 22, op := Op.call { callee := Callee.value (Operand.func 12), args := #[Operand.tmp 19, Operand.tmp 20, Operand.tmp 21], argTypes := #[30, 9, 25] }, type := 26, pos := "law.go:34", after := #[{ on := 4, ground := Ground.data }, { on := 5, ground := Ground.data }, { on := 6, ground := Ground.data }, { on := 3, ground := Ground.chain }], guard := none }) (fun v w' => StrsAt w' v1 (expLines s mb me ts) ∧ StrsAt w' v (expLines s mb me ts) ∧ Upd (fun _ => False) W1 w') rfl (by rfl)
    focus (go_simp; (first | done | exact rfl | exact ⟨rfl, rfl⟩))
    focus (refine (rlines_any a cp ts s cs mb me _ (TmsAt.upd ht1 hS (fun _ _ h => h)) hm q2 (by omega) q3).mono ?_; rintro e w' ⟨dv, rfl, hb, ho⟩; exact ⟨dv, rfl, hv1.below hb, StrsAt.of_owns ho, hS.trans (false_upd hb)⟩)
    rintro v2 w3 ⟨hv1b, hv2, hS2⟩; clear hS hv1; have hS := hS2; clear hS2; refine ⟨fun _ => hS, ?_⟩
    (try simp only [Act.put, List.setIfInBounds_toArray, List.set_cons_zero, List.set_cons_succ])
    apply seq_call (o := { dst := some 23, op := Op.call { callee := Callee.value (Operand.func 11), args := #[Operand.tmp 18, Operand.tmp 22], argTypes := #[26, 26] }, type := 4, pos := "law.go:34", after := #[{ on := 3, ground := Ground.data }, { on := 7, ground := Ground.data }, { on := 7, ground := Ground.chain }], guard := none }) (fun v w' => v = Value.bool true ∧ Upd (fun _ => False) W1 w') rfl (by rfl)
    focus (go_simp; (first | done | exact rfl | exact ⟨rfl, rfl⟩))
    focus (refine (Same_any v1 v2 _ _ _ hv1b hv2 (by have := (runs_len s mb me q2 ts Wr.zero q3).2; simp [expLines, runTms, Wr.cut, Wr.zero] at this ⊢; omega)).mono ?_; rintro e w' ⟨rfl, hb⟩; exact ⟨_, by simp, rfl, hS.trans (false_upd hb)⟩)
    rintro v3 w4 ⟨rfl, hS2⟩; clear hS; have hS := hS2; clear hS2; refine ⟨fun _ => hS, ?_⟩
    (try simp only [Act.put, List.setIfInBounds_toArray, List.set_cons_zero, List.set_cons_succ])
    (apply seq_val (o := { dst := some 6, op := Op.assign (Operand.tmp 23), type := 4, pos := "law.go:34", after := #[{ on := 8, ground := Ground.data }, { on := 8, ground := Ground.chain }, { on := 0, ground := Ground.phase }, { on := 1, ground := Ground.phase }, { on := 2, ground := Ground.phase }, { on := 3, ground := Ground.phase }, { on := 4, ground := Ground.phase }, { on := 5, ground := Ground.phase }, { on := 6, ground := Ground.phase }, { on := 7, ground := Ground.phase }, { on := 8, ground := Ground.phase }], guard := none }) rfl (by rfl); (focus (intro w' hS'; have s0 := hS'.heap hH1 (fun h => h); go_simp; (first | done | exact rfl | (rw [if_pos (by omega)]; done)))); (focus exact hS))
    (try simp only [Act.put, List.setIfInBounds_toArray, List.set_cons_zero, List.set_cons_succ])
    refine seq_nil ?_
    go_wp2
    go_ret
    exact ⟨rfl, hB1.trans (hS.below hB1.size (fun _ _ h => h))⟩
  · have Hv := Lib.hid hv; clear hv
    unfold tmsV
    go_enter Try.func5, Try.ntmps5
    go_wp2_with (first
      | (go_at_call 10
         obtain ⟨hH, hB, hsz⟩ := match_new w cs 25
         have ht0 := TmsAt.upd ht (false_upd hB) (fun _ _ h => h)
         generalize w.alloc (.cells cs 25) = W0 at *
         refine (heavy_all a cp ts s _ ht0 hn hs hx).mono ?_; rw [Hv.out]; rintro e w1 ⟨rfl, rfl⟩)
      | (go_at_call 8; refine (known_any _).mono ?_; rintro e W1 ⟨rfl, hq⟩))
    go_ret
    exact ⟨rfl, hB.trans (hq.mono hB.size)⟩
end Go.Proofs.Ytalgdihaeglleaa
