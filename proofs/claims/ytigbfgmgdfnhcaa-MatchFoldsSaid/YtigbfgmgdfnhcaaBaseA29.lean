/- Lemmas that the law's proof stands on, part 29: BackR, Clo, StA. No condition. -/
import Derived.Test.YtigbfgmgdfnhcaaBaseA0
import Derived.Deep.AppendLies
import Derived.OwnWalk
import Derived.Test.YtigbfgmgdfnhcaaBaseA28
set_option linter.all false
set_option linter.unusedVariables false
set_option linter.unusedSimpArgs false
namespace Go.Proofs.Ytigbfgmgdfnhcaa
open Go.RowKit
def BackPostR (w : World) (bT : Nat) (T : TypeId) (t : TryD) (rv : Value) (q : Option Nat) (e : Ending) (w' : World) : Prop :=
  match q with
  | none => e = .returned (.bool false) ∧ Upd (fun k => k = bT) w w'
  | some p => e = .returned (.bool true) ∧ w'.heap[bT]? = some (.cells (tryC { t with pos := p } rv) T (0, 0)) ∧ Upd (fun k => k = bT) w w'
set_option maxRecDepth 100000 in
set_option maxHeartbeats 8000000 in
theorem rback_any {w : World} (bM bT : Nat) (cv tv rv : Value) (r stp : Int) (fold : Bool) (s : ByteArray) (t : TryD) (x : Nat) (hx : x < 10) (ht : TryOK s.size t) (hs0 : s.size ≤ 140737488351232)
    (kM : w.heap[bM]? = some (.cells #[cv, .int .i64 r, .bool fold, .string s, tv, .int .i64 stp] 80 (0, 0))) (kT : w.heap[bT]? = some (.cells (tryC t rv) 82 (0, 0))) :
    Calls Try.prog 52 #[.pointer (some ⟨bM, 0, none⟩), .pointer (some ⟨bT, 0, none⟩), .int .i64 (x : Int)] w (BackPostR w bT 82 t rv (backF fold s.data.toList t x)) := by
  have HL : Hid (s.data.toList.length = s.size) := Lib.hid (by simp)
  have HT := Lib.hid ht
  have hp := ht.pos
  have cA := cell_of kT (2 + 2 * x) (try_slot t rv (2 * x) (by have := ht.sl; omega))
  have cB := cell_of kT (2 + (2 * x + 1)) (try_slot t rv (2 * x + 1) (by have := ht.sl; omega))
  have cP := cell_of kT 1 (try_pos t rv)
  have fT := frees_of kT
  have cM := cells_of kM; (try simp only [instC, zzT, zzO, zzS] at cM); have fM := frees_of kM
  have c2 := cM 2
  have c3 := cM 3
  obtain ⟨E, hE⟩ : ∃ E, backF fold s.data.toList t x = E := ⟨_, rfl⟩
  have HE := Lib.hid hE
  rw [hE]
  unfold backF at HE
  rw [HL.out] at HE
  clear hE ht
  have ha := HT.out.slot (2 * x)
  have hb := HT.out.slot (2 * x + 1)
  obtain ⟨a, hA⟩ : ∃ a, t.slots.getD (2 * x) 0 = a := ⟨_, rfl⟩
  obtain ⟨b, hB⟩ : ∃ b, t.slots.getD (2 * x + 1) 0 = b := ⟨_, rfl⟩
  obtain ⟨pos, hP⟩ : ∃ pos, t.pos = pos := ⟨_, rfl⟩
  have HPP := Lib.hid hP
  rw [hA] at cA ha HE
  rw [hB] at cB hb HE
  rw [hP] at cP hp HE
  clear hA hB hP
  obtain ⟨ha0, ha1⟩ := ha
  obtain ⟨hb0, hb1⟩ := hb
  have hsub : IntKind.i64.wrap (2 * (x : Int)) = 2 * (x : Int) := by unfold IntKind.wrap; simp [IntKind.signed, IntKind.bits]; omega
  have hsub2 : IntKind.i64.wrap (2 * (x : Int) + 1) = 2 * (x : Int) + 1 := by unfold IntKind.wrap; simp [IntKind.signed, IntKind.bits]; omega
  have ea : (2 * (x : Int)).toNat = 2 * x := by omega
  have eb : (2 * (x : Int) + 1).toNat = 2 * x + 1 := by omega
  have HK := Lib.hid kT
  have HM := Lib.hid kM
  clear kM kT ea eb
  go_enter Try.func52, Try.ntmps52
  by_cases g1 : a < 0
  · have HE2 : Hid (E = none) := Lib.hid (by rw [← HE.out, if_pos (.inl g1)])
    clear HE
    have e := HE2.out
    subst e
    go_wp2
    go_ret
    exact ⟨rfl, Upd.refl _ _⟩
  · by_cases g2 : b < a
    · have HE2 : Hid (E = none) := Lib.hid (by rw [← HE.out, if_pos (.inr g2)])
      clear HE
      have e := HE2.out
      subst e
      go_wp2
      go_ret
      exact ⟨rfl, Upd.refl _ _⟩
    · have HE2 : Hid ((if (s.size : Int) - pos < b - a then none else if sameRun fold s.data.toList pos a.toNat (b - a).toNat = true then some (pos + (b - a).toNat) else none) = E) := Lib.hid (by rw [← HE.out, if_neg (show ¬ (a < 0 ∨ b < a) by omega)])
      clear HE
      obtain ⟨m, rfl⟩ := Int.eq_ofNat_of_zero_le (by omega : 0 ≤ a)
      obtain ⟨n, hn⟩ := Int.eq_ofNat_of_zero_le (by omega : 0 ≤ b - m)
      obtain rfl : b = m + n := by omega
      rw [show ((m : Int) + n - m).toNat = n by omega, Int.toNat_natCast, show (m : Int) + n - m = n by omega] at HE2
      clear hn
      have HKM := HM
      have HSZ := Lib.hid (fun k => try_size { t with pos := k } rv HT.out.sl)
      have HNE : Hid (bM ≠ bT) := Lib.hid (fun e => by have h1 := HM.out; have h2 := HK.out; rw [e, h2] at h1; simp at h1)
      have eT : t = { t with pos := pos } := by rw [← HPP.out]
      have HE3 : Hid ((if (s.size : Int) - ((pos + 0 : Nat) : Int) < (n : Int) then none else if sameRun fold s.data.toList (pos + 0) (m + 0) n = true then some (pos + n) else none) = E) := Lib.hid (by simpa using HE2.out)
      have HK2 : Hid (w.heap[bT]? = some (.cells (tryC { t with pos := pos + 0 } rv) 82 (0, 0))) := Lib.hid (by rw [Nat.add_zero, ← eT]; exact HK.out)
      clear HE2 HK eT cP fT cM fM
      go_wp2
      go_loopg [9] n (fun gk iv wr => ∃ k : Nat, iv = .int .i64 (((m + k : Nat) : Int)) ∧ k + gk = n ∧ Hid ((if (s.size : Int) - ((pos + k : Nat) : Int) < (gk : Int) then none else if sameRun fold s.data.toList (pos + k) (m + k) gk = true then some (pos + n) else none) = E) ∧ pos + k ≤ s.size ∧ Hid (wr.heap[bT]? = some (.cells (tryC { t with pos := pos + k } rv) 82 (0, 0))) ∧ Hid (Upd (fun k => k = bT) w wr))
      case atStart => exact ⟨0, rfl, by omega, HE3, hp, HK2, Lib.hid (Upd.refl _ _)⟩
      case round =>
        clear HK2 HE3
        obtain ⟨k, rfl, hk, HE3, hpk, HK2, HU⟩ := hrel
        have kM := HU.out.heap HM.out HNE.out
        have cP := cell_of HK2.out 1 (try_pos { t with pos := pos + k } rv)
        have cM := cells_of kM; (try simp only [instC, zzT, zzO, zzS] at cM); have fM := frees_of kM
        have d2 := cM 2
        have d3 := cM 3
        by_cases hlt : k < n
        · obtain ⟨g, rfl⟩ : ∃ g, gk = g + 1 := ⟨gk - 1, by omega⟩
          by_cases hend : pos + k < s.size
          · have HS := Lib.hid (fun w => rSame_all (bl s.data.toList (pos + k)) (bl s.data.toList (m + k)) fold w)
            obtain ⟨B, hB⟩ : ∃ B, sameB (bl s.data.toList (pos + k)) (bl s.data.toList (m + k)) fold = B := ⟨_, rfl⟩
            have HE4 : Hid ((if (s.size : Int) - ((pos + (k + 1) : Nat) : Int) < (g : Int) then none else if (B && sameRun fold s.data.toList (pos + (k + 1)) (m + (k + 1)) g) = true then some (pos + n) else none) = E) := Lib.hid (by
              rw [← HE3.out, ← hB]
              by_cases hh : (s.size : Int) - ((pos + (k + 1) : Nat) : Int) < (g : Int)
              · rw [if_pos hh, if_pos (show (s.size : Int) - ((pos + k : Nat) : Int) < ((g + 1 : Nat) : Int) by omega)]
              · rw [if_neg hh, if_neg (show ¬ (s.size : Int) - ((pos + k : Nat) : Int) < ((g + 1 : Nat) : Int) by omega)]; rfl)
            rw [hB] at HS
            rw [show pos + k = ((pos : Int) + (k : Int)).toNat by omega, show m + k = ((m : Int) + (k : Int)).toNat by omega] at HS
            clear hB HE3
            have h1 : decide ((s.size : Int) ≤ (pos : Int) + (k : Int)) = false := decide_eq_false (by omega)
            go_wp2
            first | (refine wq_region_from_still ?_) | (refine wq_region_from (by kernel_rfl) (by kernel_rfl) ?_)
            repeat
              first
                | ((refine WQ_skip (by rfl) ?_); (try simp only [Act.put, zzT, zzO, zzS]))
                | (apply WQ_val (by rfl); (focus (intro w' hC; (have e0 := From.cell hC cP; have e1 := From.cell hC d3; have e4 := From.cell hC d2); go_simp; (first | done | exact rfl | (rw [if_pos (by omega)]; done) | (exact str_idx (by omega))))); (try simp only [Act.put, zzT, zzO, zzS]))
                | (apply WQ_call (by rfl); (focus (intro w' hC; go_simp; (first | done | exact rfl | exact ⟨rfl, rfl⟩))); (focus (intro w' hC; first | (with_reducible exact From.of_same hC (HS.out _)))); (try simp only [Act.put, zzT, zzO, zzS]))
            refine WQ_nil ?_
            intro wq hq
            have HU2 := Lib.hid (HU.out.then (upd_from hq) (fun _ _ h => h.elim))
            have kT := (upd_from hq).heap HK2.out (fun h => h)
            have cP2 := From.cell hq cP
            have fT := frees_of kT
            clear hq cM fM kM d2 d3 cP HU
            cases B
            · have HE5 : Hid (none = E) := Lib.hid (by rw [← HE4.out]; split <;> rfl)
              have e := HE5.out
              subst e
              clear HE4 HE5
              go_wp2
              go_ret
              exact ⟨rfl, HU2.out⟩
            · have HE5 : Hid ((if (s.size : Int) - ((pos + (k + 1) : Nat) : Int) < (g : Int) then none else if sameRun fold s.data.toList (pos + (k + 1)) (m + (k + 1)) g = true then some (pos + n) else none) = E) := Lib.hid (by rw [← HE4.out, Bool.true_and])
              clear HE4 HS
              have hs7 : IntKind.i64.wrap ((m : Int) + (k : Int) + 1) = (m : Int) + (k : Int) + 1 := by unfold IntKind.wrap; simp [IntKind.signed, IntKind.bits]; omega
              go_wp2_with (first | ((with_reducible refine stopSt 3 _ _ rfl ?_); unfold Stop; refine wpList_store_blk rfl 3 _ _ rfl bT 1 rfl (.int .i64 ((pos + (k + 1) : Nat) : Int)) (by go_simp; first | done | exact rfl | (congr 1; omega) | omega) (tryC { t with pos := pos + k } rv) (tryC { t with pos := pos + (k + 1) } rv) _ kT (by rw [HSZ.out]; exact (by decide : 1 + 1 ≤ 25)) (by kernel_rfl) rfl (try_set_pos { t with pos := pos + k } rv (pos + (k + 1))) ?_; intro w9 k9 hu9 hs9))
              go_roundg g
              case measure => omega
              case rel => exact ⟨k + 1, by go_num, by omega, HE5, by omega, Lib.hid k9, Lib.hid (HU2.out.then hu9 (fun _ _ h => h))⟩
          · have HE4 : Hid (none = E) := Lib.hid (by rw [← HE3.out, if_pos (by omega)])
            have e := HE4.out
            subst e
            have h1 : decide ((s.size : Int) ≤ (pos : Int) + (k : Int)) = true := decide_eq_true (by omega)
            go_wp2
            first | (refine wq_region_from_still ?_) | (refine wq_region_from (by kernel_rfl) (by kernel_rfl) ?_)
            repeat
              first
                | ((refine WQ_skip (by rfl) ?_); (try simp only [Act.put, zzT, zzO, zzS]))
                | (apply WQ_val (by rfl); (focus (intro w' hC; (have e0 := From.cell hC cP; have e1 := From.cell hC d3; have e4 := From.cell hC d2); go_simp; (first | done | exact rfl | (rw [if_pos (by omega)]; done) | (exact str_idx (by omega))))); (try simp only [Act.put, zzT, zzO, zzS]))
                | (apply WQ_call (by rfl); (focus (intro w' hC; go_simp; (first | done | exact rfl | exact ⟨rfl, rfl⟩))); (focus (intro w' hC; first | fail)); (try simp only [Act.put, zzT, zzO, zzS]))
            refine WQ_nil ?_
            intro wq hq
            go_wp2
            go_ret
            exact ⟨rfl, HU.out.then (upd_from hq) (fun _ _ h => h.elim)⟩
        · obtain rfl : k = n := by omega
          obtain rfl : gk = 0 := by omega
          have HE4 : Hid (some (pos + k) = E) := Lib.hid (by rw [← HE3.out, if_neg (by omega)]; exact (if_pos rfl).symm)
          have e := HE4.out
          subst e
          clear HE3
          go_wp2
          go_ret
          exact ⟨rfl, HK2.out, HU.out⟩
end Go.Proofs.Ytigbfgmgdfnhcaa
namespace Go.Proofs.Ytigbfgmgdfnhcaa
open Go.RowKit
def intsC (l : List Int) : List Value := l.map (Value.int .i64)
theorem info_int5 : (Try.prog.info? 3).map (fun i => (i.zero, i.size, i.bytes)) = some (some (.int .i64 0), 1, 8) := by kernel_rfl
/-- Numbers that a slice owns. -/
def RdsAt (w : World) (B : Nat) (v : Value) (l : List Int) : Prop := w.ownsRow B 3 1 v l.length (intsC l)
theorem RdsAt.newer {w w' : World} {B : Nat} {v : Value} {l : List Int} (h : RdsAt w B v l) (hu : Upd (fun k => w.heap.size ≤ k) w w') : RdsAt w' B v l := ownsRow_upd h hu (fun g hg => by have := (h.lt g hg).2; omega)
theorem RdsAt.newer0 {w w' : World} {B : Nat} {v : Value} {l : List Int} (h : RdsAt w B v l) (hu : Upd (fun _ => False) w w') : RdsAt w' B v l := h.newer (hu.mono (fun _ _ h => h.elim))
theorem owned_cells {w : World} {B g c n : Nat} {e : TypeId} {xs : List Value} (h : w.ownsRow B e 1 (.slice (some ⟨g, 0, none⟩) n c) n xs) : ∀ j u, xs[j]? = some u → w.cell? ((⟨g, 0, none⟩ : Addr).add j) = some u := by
  intro j u hu
  rcases h.2 with ⟨e, _⟩ | ⟨g', cap, cur, e, _, hb, hnc, _, hsz, htk⟩
  · cases e
  · injection e with e1 e2 e3
    injection e1 with e1
    injection e1 with e1
    subst e1 e3
    rw [Addr.add_mid, cells_of hb (0 + j), Nat.zero_add]
    rw [← htk, List.getElem?_take] at hu
    split at hu
    · simpa using hu
    · cases hu
section
variable {P : Program} {ops : Array Oper} {rest : List Oper} {op : Oper} {a : Act} {w : World} {Q : Exit → Act → World → Prop}
theorem run_buildSlice0 (w : World) (t e : TypeId) (ie : TypeInfo) (hu : P.underlying t = some (.slice e)) (hi : P.info? e = some ie) :
    (Instr.buildSlice t 0 #[]).run P w = .ok (.slice (some ⟨w.heap.size, 0, none⟩) 0 0) (w.alloc (.cells #[] e)) := by
  unfold Instr.buildSlice
  have e0 : Array.range 0 = #[] := by simp [Array.range]
  simp [Sem.run_bind, run_underlying hu, sizeOf, typeInfo, hi, newRow, run_newObj_alloc, Instr.fill, e0]
theorem wpList_slice0_blk (hgd : op.guard = none) (t e : TypeId) (ho : op.op = .buildSlice t 0 #[]) (ie : TypeInfo) (hu : P.underlying t = some (.slice e)) (hi : P.info? e = some ie)
    (h : ∀ b w', w.heap.size = b → w'.heap[b]? = some (.cells #[] e (0, 0)) → Upd (fun _ => False) w w' → w'.heap.size = b + 1 → wpList P ops Q rest (a.put op.dst (.slice (some ⟨b, 0, none⟩) 0 0)) w') : wpList P ops Q (op :: rest) a w := by
  obtain ⟨g1, g2, g3⟩ := new_facts w (.cells #[] e)
  refine Great.wpList_runTo hgd op.dst rfl _ _ ?_ (h _ _ rfl g1 g2 g3)
  unfold execOp
  simp only [ho, Array.map_empty, Sem.run_bind, run_buildSlice0 w t e ie hu hi, Result.andThen_ok, Sem.run_pure]
end
theorem eql_rowI (a : Addr) (n c : Nat) (w : World) : (Go.binOp .eql 51 (.slice (some a) n c) (.slice none 0 0)).run Try.prog w = .ok (.bool false) w := by
  kernel_rfl
theorem eql_nilI (w : World) : (Go.binOp .eql 51 (.slice none 0 0) (.slice none 0 0)).run Try.prog w = .ok (.bool true) w := by
  kernel_rfl
attribute [local go_sem] eql_rowI eql_nilI
set_option maxRecDepth 100000 in
set_option maxHeartbeats 8000000 in
theorem clone_any {w : World} {B : Nat} {v : Value} {l : List Int} (h : RdsAt w B v l) (hl : l.length ≤ 2000) :
    Calls Try.prog 40 #[v] w fun e w' => ∃ v', e = .returned v' ∧ RdsAt w' w.heap.size v' l ∧ Upd (fun _ => False) w w' := by
  have hU0 := Upd.refl (fun _ => False) w
  have hz := Nat.le_refl w.heap.size
  obtain ⟨i0, hi, hz0, hz1, hz2⟩ := info_parts info_int5
  rcases h.2 with ⟨rfl, h0⟩ | ⟨g, cap, cur, rfl, hB, hb, hnc, hcm, hsz, htk⟩
  · go_enter Try.func40, Try.ntmps40
    go_wp2
    go_ret
    exact ⟨_, rfl, ⟨by simp [intsC], .inl ⟨rfl, h0⟩⟩, hU0⟩
  · have HR := Lib.hid h
    have HIC : Hid (∀ u ∈ intsC l, u.oneCell' = true) := Lib.hid (fun u hu => by obtain ⟨x, _, rfl⟩ := List.mem_map.1 hu; rfl)
    have kG := hb
    have cG := cells_of kG; (try simp only [rdC, nodeC, tokC, setC, zzT, zzO, zzS] at cG); have fG := frees_of kG
    clear h hb
    go_enter Try.func40, Try.ntmps40
    go_wp2_with (first
      | ((with_reducible refine stopBS 51 _ _ rfl ?_); unfold Stop; refine wpList_slice0_blk rfl 51 3 rfl i0 Try.underlying51 hi ?_; intro bX wn hbn kn hUn hsn; clear cG fG; have gX : w.heap.size ≤ bX := Nat.le_of_eq hbn; have kX := kn; replace hU0 := hU0.then hUn (fun _ _ h => h.elim); replace hz : w.heap.size ≤ wn.heap.size := (by omega); clear kn hUn hsn hbn)
      | (at_builtin; go_loud (refine wpList_append_own2 _ rfl _ _ 51 rfl w.heap.size 3 i0 (.int .i64 0) 1 8 Try.underlying51 hi hz0 hz1 hz2 rfl (by decide) (.slice (some ⟨bX, 0, none⟩) 0 0) 0 [] rfl ⟨rfl, .inr ⟨bX, 0, #[], rfl, gX, kX, Nat.le_refl _, by decide, rfl, rfl⟩⟩ ⟨g, 0, none⟩ l.length cap (intsC l) rfl (by simp [intsC]) (owned_cells (HR.out.newer0 hU0)) HIC.out (by simp [maxLen]; omega) (by omega) hz ?_; intro v' w' ho hg hv)))
    go_ret
    refine ⟨v', rfl, by simpa [RdsAt] using ho, ⟨hg.os.trans hU0.os, hg.tape.trans hU0.tape, hg.output.trans hU0.output, Nat.le_trans hU0.size hg.size, fun k hk _ => ?_⟩⟩
    rw [hg.block k (by omega) (by simp [Value.ownBlock]; omega)]
    exact hU0.block k hk (fun h => h)
end Go.Proofs.Ytigbfgmgdfnhcaa
namespace Go.Proofs.Ytigbfgmgdfnhcaa
open Go.RowKit
/-- A step that changes the try alone. -/
def stepT (fold : Bool) (l : List UInt8) (t0 : TryD) (i : InstD) : Option TryD :=
  let t := { t0 with pc := t0.pc + 1 }
  if i.op = 1 ∨ i.op = 2 ∨ i.op = 3 then
    if t.pos = l.length ∨ takesF fold i (bl l t.pos) = false then none else some { t with pos := t.pos + 1 }
  else if i.op = 5 then some { t with pc := i.x.toNat }
  else if i.op = 6 then some { t with slots := t.slots.set i.x.toNat t.pos }
  else if i.op = 7 then (backF fold l t i.x.toNat).map fun p => { t with pos := p }
  else if i.op = 13 then if t.rounds.getD i.x.toNat 0 = t.pos then none else some t
  else if looksF l t.pos i.op = true then some t else none
theorem stepF_T {fold : Bool} {l : List UInt8} {t : TryD} {i : InstD} {ts : List TryD} (h4 : i.op ≠ 4) (h12 : i.op ≠ 12) : stepF fold l t i ts = (stepT fold l t i).map fun t => (t, ts) := by
  unfold stepF stepT
  simp only []
  by_cases h : i.op = 1 ∨ i.op = 2 ∨ i.op = 3
  · rw [if_pos h, if_pos h]; split <;> rfl
  · rw [if_neg h, if_neg h, if_neg h4]
    by_cases h5 : i.op = 5
    · rw [if_pos h5, if_pos h5]; rfl
    · rw [if_neg h5, if_neg h5]
      by_cases h6 : i.op = 6
      · rw [if_pos h6, if_pos h6]; rfl
      · rw [if_neg h6, if_neg h6]
        by_cases h7 : i.op = 7
        · rw [if_pos h7, if_pos h7]; cases backF fold l { t with pc := t.pc + 1 } i.x.toNat <;> rfl
        · rw [if_neg h7, if_neg h7, if_neg h12]
          by_cases h13 : i.op = 13
          · rw [if_pos h13, if_pos h13]; split <;> rfl
          · rw [if_neg h13, if_neg h13]; split <;> rfl
def StepPost (w : World) (bT : Nat) (T : TypeId) (rv : Value) (q : Option TryD) (e : Ending) (w' : World) : Prop :=
  match q with
  | none => e = .returned (.bool false) ∧ Upd (fun k => k = bT) w w'
  | some t => e = .returned (.bool true) ∧ w'.heap[bT]? = some (.cells (tryC t rv) T (0, 0)) ∧ Upd (fun k => k = bT) w w'
set_option maxRecDepth 100000 in
set_option maxHeartbeats 8000000 in
theorem stepA_any {w : World} (bM bT : Nat) (cv tv rv : Value) (r : Int) (fold : Bool) (s : ByteArray) (t : TryD) (i : InstD) (ho : i.op = 1 ∨ i.op = 2 ∨ i.op = 3) (ht : TryOK s.size t) (hpc : t.pc ≤ 1000000) (hs0 : s.size ≤ 140737488351232)
    (kM : w.heap[bM]? = some (.cells #[cv, .int .i64 r, .bool fold, .string s, tv] 58 (0, 0))) (kT : w.heap[bT]? = some (.cells (tryC t rv) 54 (0, 0))) :
    Calls Try.prog 27 #[.pointer (some ⟨bM, 0, none⟩), .pointer (some ⟨bT, 0, none⟩), .agg (instC i).toArray] w (StepPost w bT 54 rv (stepT fold s.data.toList t i)) := by
  have HL : Hid (s.data.toList.length = s.size) := Lib.hid (by simp)
  have hU0 := Upd.refl (fun k => k = bT) w
  have hz := Nat.le_refl w.heap.size
  have HNE : Hid (bM ≠ bT) := Lib.hid (fun e => by rw [e, kT] at kM; simp at kM)
  have HT := Lib.hid ht
  have HM := Lib.hid kM
  have hp := ht.pos
  obtain ⟨E, hE⟩ : ∃ E, stepT fold s.data.toList t i = E := ⟨_, rfl⟩
  have HE : Hid ((if t.pos = s.size ∨ takesF fold i (bl s.data.toList t.pos) = false then none else some { t with pc := t.pc + 1, pos := t.pos + 1 }) = E) := Lib.hid (by rw [← hE]; unfold stepT; simp only []; rw [if_pos ho, HL.out])
  rw [hE]
  clear hE ht
  have HSZ := Lib.hid (fun k p => try_size { t with pc := k, pos := p } rv HT.out.sl)
  obtain ⟨pos, hP⟩ : ∃ pos, t.pos = pos := ⟨_, rfl⟩
  obtain ⟨pc, hPC⟩ : ∃ pc, t.pc = pc := ⟨_, rfl⟩
  have kT : w.heap[bT]? = some (.cells (tryC { t with pc := pc, pos := pos } rv) 54 (0, 0)) := by rw [← hP, ← hPC]; exact kT
  rw [hP] at hp HE
  rw [hPC] at hpc HE
  clear hP hPC
  have hbt := heap_lt kT
  have cP0 := cell_of kT 0 (try_pc { t with pc := pc, pos := pos } rv)
  unfold instC
  have cM := cells_of kM; (try simp only [instC, zzT, zzO, zzS] at cM); have fM := frees_of kM
  go_enter Try.func27, Try.ntmps27
  go_upto_region 2 with (first
    | (have _kk := cP0; ((with_reducible refine stopBx 63 _ rfl ?_); unfold Stop; refine wpList_box_blk rfl 63 _ rfl _ (by go_simp; first | done | exact rfl) #[.int .u8 i.op, .int .u8 i.c, .int .u64 i.set.a0, .int .u64 i.set.a1, .int .u64 i.set.a2, .int .u64 i.set.a3, .int .i64 i.x, .int .i64 i.y] rfl ?_; intro bI wn hbn kn hUn hsn; clear cM fM; have lMI := heap_lt kM; rw [hbn] at lMI; replace kM := hUn.heap kM (fun h => h); have gI : w.heap.size ≤ bI := Nat.le_trans hU0.size (Nat.le_of_eq hbn); have kI := kn; replace hU0 := hU0.then hUn (fun _ _ h => h.elim); replace hz : w.heap.size ≤ wn.heap.size := (by omega); replace kT := hUn.heap kT (fun h => h); replace cP0 := cell_of kT 0 (try_pc { t with pc := pc, pos := pos } rv); clear kn hUn hsn hbn; have cI := cells_of kI; (try simp only [instC, zzT, zzO, zzS] at cI); have fI := frees_of kI; have cM := cells_of kM; (try simp only [instC, zzT, zzO, zzS] at cM); have fM := frees_of kM); clear _kk)
    | ((with_reducible refine stopSt 3 _ _ rfl ?_); unfold Stop; refine wpList_store_blk rfl 3 _ _ rfl bT 0 rfl (.int .i64 ((pc + 1 : Nat) : Int)) (by go_simp; first | done | exact rfl | (congr 1; omega) | omega) (tryC { t with pc := pc, pos := pos } rv) (tryC { t with pc := pc + 1, pos := pos } rv) _ kT (by rw [HSZ.out]; exact (by decide : 0 + 1 ≤ 25)) (by kernel_rfl) rfl (try_set_pc { t with pc := pc, pos := pos } rv (pc + 1)) ?_; intro w1 k1 hu1 hs1))
  have kI1 := hu1.heap kI (fun (e : bI = bT) => by omega)
  have kM1 := hu1.heap kM HNE.out
  have HU1 := Lib.hid (hU0.then hu1 (fun _ _ h => h))
  clear cI fI cM fM kI kM hU0 hz hu1 hs1 cP0 kT
  have i0 := cell_of kI1 0 (v := .int .u8 i.op) rfl
  have i1 := cell_of kI1 1 (v := .int .u8 i.c) rfl
  have i2 := cell_of kI1 2 (v := .int .u64 i.set.a0) rfl
  have i3 := cell_of kI1 3 (v := .int .u64 i.set.a1) rfl
  have i4 := cell_of kI1 4 (v := .int .u64 i.set.a2) rfl
  have i5 := cell_of kI1 5 (v := .int .u64 i.set.a3) rfl
  have i6 := cell_of kI1 6 (v := .int .i64 i.x) rfl
  have i7 := cell_of kI1 7 (v := .int .i64 i.y) rfl
  have d3 := cell_of kM1 3 (v := .string s) rfl
  have cP1 := cell_of k1 1 (try_pos { t with pc := pc + 1, pos := pos } rv)
  have hbr := bl_rng s.data.toList pos
  have HTK : Hid (∀ w', From w1 w' → Calls Try.prog 39 #[.pointer (some ⟨bM, 0, none⟩), .agg (instC i).toArray, .int .u8 (bl s.data.toList pos)] w' fun e w'' => e = .returned (.bool (takesF fold i (bl s.data.toList pos))) ∧ Upd (fun _ => False) w' w'') := Lib.hid (fun w' hC => takes_any bM cv tv r fold s ((upd_from hC).heap kM1 (fun h => h)) i _ hbr.1 hbr.2)
  clear hbr
  obtain ⟨B, hB⟩ : ∃ B, takesF fold i (bl s.data.toList pos) = B := ⟨_, rfl⟩
  rw [hB] at HTK HE
  clear hB
  unfold instC at HTK
  have HK1 := Lib.hid k1
  clear k1 kI1 kM1
  have HO : Hid ((i.op == 1) = true ∨ ((i.op == 1) = false ∧ (i.op == 2) = true) ∨ ((i.op == 1) = false ∧ (i.op == 2) = false ∧ (i.op == 3) = true)) := Lib.hid (by rcases ho with h | h | h <;> simp [h])
  clear ho
  rcases HO.out with h1 | ⟨h1, h2⟩ | ⟨h1, h2, h3⟩
  all_goals
    by_cases hend : pos = s.size
    · have HE2 : Hid (none = E) := Lib.hid (by rw [← HE.out, if_pos (.inl hend)])
      have e := HE2.out
      subst e
      have h9 : ((pos : Int) == (s.size : Int)) = true := beq_iff_eq.mpr (by omega)
      clear HE hend
      go_wp2
      first | (refine wq_region_from_still ?_) | (refine wq_region_from (by kernel_rfl) (by kernel_rfl) ?_)
      repeat
        first
          | ((refine WQ_skip (by rfl) ?_); (try simp only [Act.put, zzT, zzO, zzS]))
          | (apply WQ_val (by rfl); (focus (intro w' hC; (have e0 := From.cell hC d3; have e1 := From.cell hC cP1; have f0 := From.cell hC i0; have f1 := From.cell hC i1; have f2 := From.cell hC i2; have f3 := From.cell hC i3; have f4 := From.cell hC i4; have f5 := From.cell hC i5; have f6 := From.cell hC i6; have f7 := From.cell hC i7); go_simp; (first | done | exact rfl | (rw [if_pos (by omega)]; done) | (exact str_idx (by omega))))); (try simp only [Act.put, zzT, zzO, zzS]))
          | (apply WQ_call (by rfl); (focus (intro w' hC; go_simp; (first | done | exact rfl | exact ⟨rfl, rfl⟩))); (focus (intro w' hC; first | (with_reducible exact From.of_new hC (HTK.out _ hC)))); (try simp only [Act.put, zzT, zzO, zzS]))
      refine WQ_nil ?_
      intro wq hq
      go_wp2
      go_ret
      exact ⟨rfl, HU1.out.then (upd_from hq) (fun _ _ h => h.elim)⟩
    · have h9 : ((pos : Int) == (s.size : Int)) = false := beq_eq_false_iff_ne.mpr (by omega)
      have hlt : pos < s.size := by omega
      have HTK := Lib.hid HTK.out
      rw [← bl_at hlt] at HTK
      cases B
      · have HE2 : Hid (none = E) := Lib.hid (by rw [← HE.out, if_pos (.inr rfl)])
        have e := HE2.out
        subst e
        clear HE
        go_wp2
        first | (refine wq_region_from_still ?_) | (refine wq_region_from (by kernel_rfl) (by kernel_rfl) ?_)
        repeat
          first
            | ((refine WQ_skip (by rfl) ?_); (try simp only [Act.put, zzT, zzO, zzS]))
            | (apply WQ_val (by rfl); (focus (intro w' hC; (have e0 := From.cell hC d3; have e1 := From.cell hC cP1; have f0 := From.cell hC i0; have f1 := From.cell hC i1; have f2 := From.cell hC i2; have f3 := From.cell hC i3; have f4 := From.cell hC i4; have f5 := From.cell hC i5; have f6 := From.cell hC i6; have f7 := From.cell hC i7); go_simp; (first | done | exact rfl | (rw [if_pos (by omega)]; done) | (exact str_idx (by omega))))); (try simp only [Act.put, zzT, zzO, zzS]))
            | (apply WQ_call (by rfl); (focus (intro w' hC; go_simp; (first | done | exact rfl | exact ⟨rfl, rfl⟩))); (focus (intro w' hC; first | (with_reducible exact From.of_new hC (HTK.out _ hC)))); (try simp only [Act.put, zzT, zzO, zzS]))
        refine WQ_nil ?_
        intro wq hq
        go_wp2
        go_ret
        exact ⟨rfl, HU1.out.then (upd_from hq) (fun _ _ h => h.elim)⟩
      · have HE2 : Hid (some { t with pc := pc + 1, pos := pos + 1 } = E) := Lib.hid (by rw [← HE.out, if_neg (by rintro (h | h); exact hend h; cases h)])
        have e := HE2.out
        subst e
        clear HE
        go_wp2
        first | (refine wq_region_from_still ?_) | (refine wq_region_from (by kernel_rfl) (by kernel_rfl) ?_)
        repeat
          first
            | ((refine WQ_skip (by rfl) ?_); (try simp only [Act.put, zzT, zzO, zzS]))
            | (apply WQ_val (by rfl); (focus (intro w' hC; (have e0 := From.cell hC d3; have e1 := From.cell hC cP1; have f0 := From.cell hC i0; have f1 := From.cell hC i1; have f2 := From.cell hC i2; have f3 := From.cell hC i3; have f4 := From.cell hC i4; have f5 := From.cell hC i5; have f6 := From.cell hC i6; have f7 := From.cell hC i7); go_simp; (first | done | exact rfl | (rw [if_pos (by omega)]; done) | (exact str_idx (by omega))))); (try simp only [Act.put, zzT, zzO, zzS]))
            | (apply WQ_call (by rfl); (focus (intro w' hC; go_simp; (first | done | exact rfl | exact ⟨rfl, rfl⟩))); (focus (intro w' hC; first | (with_reducible exact From.of_new hC (HTK.out _ hC)))); (try simp only [Act.put, zzT, zzO, zzS]))
        refine WQ_nil ?_
        intro wq hq
        have kT := (upd_from hq).heap HK1.out (fun h => h)
        have fT := frees_of kT
        have cP2 := From.cell hq cP1
        have HU2 := Lib.hid (HU1.out.then (upd_from hq) (fun _ _ h => h.elim))
        clear hq
        go_wp2_with (first | ((with_reducible refine stopSt 3 _ _ rfl ?_); unfold Stop; refine wpList_store_blk rfl 3 _ _ rfl bT 1 rfl (.int .i64 ((pos + 1 : Nat) : Int)) (by go_simp; first | done | exact rfl | (congr 1; omega) | omega) (tryC { t with pc := pc + 1, pos := pos } rv) (tryC { t with pc := pc + 1, pos := pos + 1 } rv) _ kT (by rw [HSZ.out]; exact (by decide : 1 + 1 ≤ 25)) (by kernel_rfl) rfl (try_set_pos { t with pc := pc + 1, pos := pos } rv (pos + 1)) ?_; intro w9 k9 hu9 hs9))
        go_ret
        exact ⟨rfl, k9, HU2.out.then hu9 (fun _ _ h => h)⟩
end Go.Proofs.Ytigbfgmgdfnhcaa
