/- Lemmas that the law's proof stands on, part 25: WrG, CmpT. No condition. -/
import Derived.Test.YtigbfgmgdfnhcaaBaseA0
import Derived.Test.YtigbfgmgdfnhcaaBaseA20
import Derived.Test.YtigbfgmgdfnhcaaBaseA24
set_option linter.all false
set_option linter.unusedVariables false
set_option linter.unusedSimpArgs false
namespace Go.Proofs.Ytigbfgmgdfnhcaa
open Go.RowKit
theorem nodeW_any (p : PatD) (hp : PatOK p) : ∀ f, RecW p (nodeF p.nodes f)
  | 0 => fun W B wb nv kvs cv0 st cv w k st2 _ _ _ hq => by unfold nodeF at hq; cases hq
  | f + 1 => fun W B wb nv kvs cv0 st cv w k st2 h hok hk hq => by
    unfold nodeF at hq
    exact nodeW_step h _ (nodeW_any p hp f) (nodeF_ok p.nodes f) hok hp k hk st2 hq
theorem PatOK.len2 {p : PatD} (h : PatOK p) : p.nodes.length ≤ 1000 := Nat.le_trans h.len (by decide)
theorem PatOK.kl {p : PatD} (h : PatOK p) (k : Nat) : (p.nodes.getD k .zero).kids.length ≤ 1000 := by
  by_cases hk : k < p.nodes.length
  · rw [List.getD_eq_getElem?_getD, List.getElem?_eq_getElem hk]; exact (h.ok k hk).1.kl
  · rw [List.getD_eq_getElem?_getD, List.getElem?_eq_none (by omega)]; simp [NodeD.zero]
theorem sound_root {p : PatD} (h : soundP p = some true) : p.root < p.nodes.length := by
  unfold soundP at h
  split at h
  · simp at h
  · split at h
    · cases h
    · rename_i b s hs
      have e := Option.some.inj h
      subst e
      exact (soundF_in p _ _ _ _ hs).1
/-- A program's code in memory. -/
def CodeAt (w : World) (cv : Value) (code : List InstD) : Prop := w.ownsRow 0 63 8 cv code.length (codeC code)
theorem CodeAt.newer {w w' : World} {cv : Value} {code : List InstD} (h : CodeAt w cv code) (hu : Upd (fun k => w.heap.size ≤ k) w w') : CodeAt w' cv code := ownsRow_upd h hu (fun g hg => by have := (h.lt g hg).2; omega)
theorem CodeAt.none (w : World) : CodeAt w (.slice none 0 0) [] := ⟨rfl, .inl ⟨rfl, rfl⟩⟩
def progC (q : ProgD) (cv : Value) : Array Value := #[cv, .int .i64 q.rounds, .bool q.fold]
theorem prog_inst {w : World} {D n : Nat} {v : Value} {xs : List Value} (ho : w.ownsRow D 63 8 v n xs) {g : Nat} (hg : v.ownBlock = some g) {cs : Array Value} {fr : Nat × Nat} (hk : w.heap[g]? = some (.cells cs 31 fr)) : False := by
  rcases ho.2 with ⟨rfl, _⟩ | ⟨g', cap, cur, rfl, _, hb, _⟩
  · simp [Value.ownBlock] at hg
  · simp only [Value.ownBlock, Option.some.injEq] at hg
    subst hg
    rw [hb] at hk; simp at hk
def CompPost (w : World) (q : ProgD) (er : Int) (e : Ending) (w' : World) : Prop := ∃ cv, e = .returned (.tuple #[.agg (progC q cv), .int .i64 er]) ∧ CodeAt w' cv q.code ∧ Upd (fun _ => False) w w'
set_option maxRecDepth 100000 in
set_option maxHeartbeats 8000000 in
theorem compile_any {w : World} {p : PatD} {nv : Value} {kvs : List Value} (h : PatAt w nv kvs p.nodes) (hold : ∀ v, v ∈ kvs → ∀ g, v.ownBlock = some g → g < w.heap.size) (hp : PatOK p) (fold : Bool) (q : ProgD) (er : Int) (hq : compileF p fold = some (q, er)) :
    Calls Try.prog 29 #[.agg (patC p nv), .bool fold] w (CompPost w q er) := by
  have HP := Lib.hid h
  have HPO := Lib.hid hp
  have hU0 := Upd.refl (fun _ => False) w
  have hz := Nat.le_refl w.heap.size
  have HOLD : Hid ((∀ g, nv.ownBlock = some g → g < w.heap.size) ∧ ∀ v, v ∈ kvs → ∀ g, v.ownBlock = some g → g < w.heap.size) := Lib.hid ⟨fun g hg => (h.own.lt g hg).2, hold⟩
  obtain ⟨ga, gc, rfl⟩ : ∃ a c, nv = .slice a p.nodes.length c := by
    rcases h.own.2 with ⟨rfl, h0⟩ | ⟨g, cap, cur, rfl, _⟩
    · exact ⟨none, 0, by rw [h0]⟩
    · exact ⟨_, cap, rfl⟩
  unfold patC
  unfold compileF at hq
  clear h hp hold
  obtain ⟨w0, hw0⟩ : ∃ w0, w0 = w := ⟨_, rfl⟩
  have HW0 := Lib.hid hw0
  clear hw0
  cases hs : soundP p with
  | none => rw [hs] at hq; cases hq
  | some b =>
    rw [hs] at hq
    have HSB := Lib.hid hs
    cases b
    · have e := Option.some.inj hq
      simp only [Prod.mk.injEq] at e
      obtain ⟨rfl, rfl⟩ := e
      clear hs hq
      go_enter Try.func29, Try.ntmps29
      go_wp2_with (first
        | ((with_reducible refine stopBx 69 _ rfl ?_); unfold Stop; refine wpList_box_blk rfl 69 _ rfl _ (by go_simp; first | done | exact rfl) #[.slice ga p.nodes.length gc, .int .i64 p.root, .int .i64 p.groups, .int .u8 p.case] rfl ?_; intro bP wn hbn kn hUn hsn; have gP : w.heap.size ≤ bP := Nat.le_trans hU0.size (Nat.le_of_eq hbn); have kP := kn; replace hU0 := hU0.then hUn (fun _ _ h => h.elim); replace hz : w.heap.size ≤ wn.heap.size := (by omega); clear kn hUn hsn hbn; have cP := cells_of kP; (try simp only [wrC, instC, nodeC, patC, zzT, zzO, zzS] at cP); have fP := frees_of kP)
        | ((with_reducible refine stopAl 31 rfl ?_); unfold Stop; refine wpList_alloc_blk rfl 31 rfl (.agg #[.slice none 0 0, .int .i64 0, .bool false]) (by kernel_rfl) #[.slice none 0 0, .int .i64 0, .bool false] rfl ?_; intro bR wn hbn kn hUn hsn; clear cP fP; have lPR := heap_lt kP; rw [hbn] at lPR; replace kP := hUn.heap kP (fun h => h); have gR : w.heap.size ≤ bR := Nat.le_trans hU0.size (Nat.le_of_eq hbn); have kR := kn; replace hU0 := hU0.then hUn (fun _ _ h => h.elim); replace hz : w.heap.size ≤ wn.heap.size := (by omega); clear kn hUn hsn hbn; have cR := cells_of kR; (try simp only [wrC, instC, nodeC, patC, zzT, zzO, zzS] at cR); have fR := frees_of kR; have cP := cells_of kP; (try simp only [wrC, instC, nodeC, patC, zzT, zzO, zzS] at cP); have fP := frees_of kP)
        | ((with_reducible refine stopLd 69 _ rfl ?_); unfold Stop; refine wpList_load_row rfl 69 _ rfl _ rfl 69 _ (0, 0) _ kP Try.underlying69 rfl (by kernel_rfl) ?_)
        | (go_at_call 44; refine (Sound_any (HP.out.newer (hU0.mono (fun _ _ h => h.elim))) HPO.out.len2 HPO.out.kl _ HSB.out).mono ?_; rintro e w5 ⟨rfl, hqq⟩; clear cR fR cP fP; replace kR := (hqq).heap kR (fun h => h); replace kP := (hqq).heap kP (fun h => h); replace hz := Nat.le_trans hz (hqq).size; replace hU0 := hU0.then hqq (fun _ _ h => h.elim); have cR := cells_of kR; (try simp only [wrC, instC, nodeC, patC, zzT, zzO, zzS] at cR); have fR := frees_of kR; have cP := cells_of kP; (try simp only [wrC, instC, nodeC, patC, zzT, zzO, zzS] at cP); have fP := frees_of kP; clear hqq)
        | ((with_reducible refine stopSt 31 _ _ rfl ?_); unfold Stop; refine wpList_store_blk rfl 31 _ _ rfl _ _ rfl _ (by go_simp; first | done | exact rfl) _ _ _ kR (zzB rfl) (by kernel_rfl) rfl (by simp only [spl, wrC, instC, nodeC, patC, Value.cells, zzT, zzO, zzS, Array.toList]; exact rfl) ?_; intro wn kn hUn hsn; clear cR fR cP fP; replace kP := hUn.heap kP (by omega); replace kR := kn; replace hU0 := hU0.then hUn (fun i hi (e : i = _) => by first | exact e | exact absurd hi (by omega) | (subst e; first | assumption | (show _ ≤ _; omega)) | exact .inl e | exact .inr e | exact .inr (.inl e) | exact .inr (.inr e)); replace hz := Nat.le_trans hz (Nat.le_of_eq hsn.symm); clear kn hUn hsn; have cR := cells_of kR; (try simp only [wrC, instC, nodeC, patC, zzT, zzO, zzS] at cR); have fR := frees_of kR; have cP := cells_of kP; (try simp only [wrC, instC, nodeC, patC, zzT, zzO, zzS] at cP); have fP := frees_of kP))
      exact bodyPost_ret (v := .tuple #[.agg _, .int .i64 1]) (results_blk_tmp Try.results29 _ _ bR 31 _ (0, 0) _ rfl kR Try.underlying31 rfl (by kernel_rfl)) rfl ⟨.slice none 0 0, rfl, CodeAt.none _, hU0⟩
    · simp only [] at hq
      have hroot := sound_root hs
      cases hn : nodeF p.nodes (p.nodes.length + 1) p.root ⟨[], 0, false⟩ with
      | none => rw [hn] at hq; cases hq
      | some s =>
        rw [hn] at hq
        simp only [] at hq
        have HNF := Lib.hid hn
        have hok0 : WOk ⟨[], 0, false⟩ := ⟨by simp, fun _ => by simp, by simp⟩
        have HOK0 := Lib.hid hok0
        have g1 := nodeF_ok p.nodes _ _ _ s hok0 hn
        have g2 := (WStp.lay g1.ok { op := 14 }).1
        have HG1 := Lib.hid g1
        have HG2 := Lib.hid g2
        have HRW := Lib.hid (nodeW_any p HPO.out (p.nodes.length + 1))
        have HQ := Lib.hid hq
        clear hs hn hq hok0 g1 g2
        obtain ⟨s2, hs2⟩ : ∃ s2, (s.lay { op := 14 }).2 = s2 := ⟨_, rfl⟩
        have HS2 := Lib.hid hs2
        rw [hs2] at HQ HG2
        clear hs2
        go_enter Try.func29, Try.ntmps29
        go_upto_region 7 with (first
          | ((with_reducible refine stopBx 69 _ rfl ?_); unfold Stop; refine wpList_box_blk rfl 69 _ rfl _ (by go_simp; first | done | exact rfl) #[.slice ga p.nodes.length gc, .int .i64 p.root, .int .i64 p.groups, .int .u8 p.case] rfl ?_; intro bP wn hbn kn hUn hsn; have gP : w.heap.size ≤ bP := Nat.le_trans hU0.size (Nat.le_of_eq hbn); have kP := kn; replace hU0 := hU0.then hUn (fun _ _ h => h.elim); replace hz : w.heap.size ≤ wn.heap.size := (by omega); clear kn hUn hsn hbn; have cP := cells_of kP; (try simp only [wrC, instC, nodeC, patC, zzT, zzO, zzS] at cP); have fP := frees_of kP)
          | ((with_reducible refine stopAl 31 rfl ?_); unfold Stop; refine wpList_alloc_blk rfl 31 rfl (.agg #[.slice none 0 0, .int .i64 0, .bool false]) (by kernel_rfl) #[.slice none 0 0, .int .i64 0, .bool false] rfl ?_; intro bR wn hbn kn hUn hsn; clear cP fP; have lPR := heap_lt kP; rw [hbn] at lPR; replace kP := hUn.heap kP (fun h => h); have gR : w.heap.size ≤ bR := Nat.le_trans hU0.size (Nat.le_of_eq hbn); have kR := kn; replace hU0 := hU0.then hUn (fun _ _ h => h.elim); replace hz : w.heap.size ≤ wn.heap.size := (by omega); clear kn hUn hsn hbn; have cR := cells_of kR; (try simp only [wrC, instC, nodeC, patC, zzT, zzO, zzS] at cR); have fR := frees_of kR; have cP := cells_of kP; (try simp only [wrC, instC, nodeC, patC, zzT, zzO, zzS] at cP); have fP := frees_of kP)
          | ((with_reducible refine stopLd 69 _ rfl ?_); unfold Stop; refine wpList_load_row rfl 69 _ rfl _ rfl 69 _ (0, 0) _ kP Try.underlying69 rfl (by kernel_rfl) ?_)
          | (go_at_call 44; refine (Sound_any (HP.out.newer (hU0.mono (fun _ _ h => h.elim))) HPO.out.len2 HPO.out.kl _ HSB.out).mono ?_; rintro e w5 ⟨rfl, hqq⟩; clear cR fR cP fP; replace kR := (hqq).heap kR (fun h => h); replace kP := (hqq).heap kP (fun h => h); replace hz := Nat.le_trans hz (hqq).size; replace hU0 := hU0.then hqq (fun _ _ h => h.elim); have cR := cells_of kR; (try simp only [wrC, instC, nodeC, patC, zzT, zzO, zzS] at cR); have fR := frees_of kR; have cP := cells_of kP; (try simp only [wrC, instC, nodeC, patC, zzT, zzO, zzS] at cP); have fP := frees_of kP; clear hqq)
          | ((with_reducible refine stopBx 101 _ rfl ?_); unfold Stop; refine wpList_box_blk rfl 101 _ rfl _ (by go_simp; first | done | exact rfl) (wrC p (.slice ga p.nodes.length gc) (.slice none 0 0) ⟨[], 0, false⟩) rfl ?_; intro b0 wn hbn kn hUn hsn; clear cR fR cP fP; have lR0 := heap_lt kR; rw [hbn] at lR0; replace kR := hUn.heap kR (fun h => h); have lP0 := heap_lt kP; rw [hbn] at lP0; replace kP := hUn.heap kP (fun h => h); have g0 : w.heap.size ≤ b0 := Nat.le_trans hU0.size (Nat.le_of_eq hbn); have k0 := kn; replace hU0 := hU0.then hUn (fun _ _ h => h.elim); replace hz : w.heap.size ≤ wn.heap.size := (by omega); have hW0 : Wr w w.heap.size b0 p (.slice ga p.nodes.length gc) kvs (.slice none 0 0) ⟨[], 0, false⟩ (.slice none 0 0) wn := ⟨kn, ⟨rfl, .inl ⟨rfl, rfl⟩⟩, HP.out.newer (hU0.mono (fun _ _ h => h.elim)), hU0.mono (fun _ _ h => h.elim), fun _ h => .inl h, Nat.le_refl _, g0, HOLD.out⟩; have HW := Lib.hid hW0; clear hW0; clear kn hUn hsn hbn; have c0 := cells_of k0; (try simp only [wrC, instC, nodeC, patC, zzT, zzO, zzS] at c0); have f0 := frees_of k0; have cR := cells_of kR; (try simp only [wrC, instC, nodeC, patC, zzT, zzO, zzS] at cR); have fR := frees_of kR; have cP := cells_of kP; (try simp only [wrC, instC, nodeC, patC, zzT, zzO, zzS] at cP); have fP := frees_of kP)
          | (go_at_call 45; refine (HRW.out _ _ b0 _ kvs _ _ _ _ p.root s HW.out.again HOK0.out hroot HNF.out).mono ?_; rintro e w ⟨rfl, cv1, hA⟩; clear cR fR cP fP c0 f0; replace kR := hA.upd.heap kR (tok_wr HW.out kR); replace kP := hA.upd.heap kP (tok_wr HW.out kP); have hN1 := HW.out.trans hA; clear hA HW hU0 hz k0; have HW := Lib.hid hN1; clear hN1; have k0 := HW.out.blk; have hU0 := Upd.refl (fun k => w.heap.size ≤ k) w; have hz := Nat.le_refl w.heap.size; have c0 := cells_of k0; (try simp only [wrC, instC, nodeC, patC, zzT, zzO, zzS] at c0); have f0 := frees_of k0; have cR := cells_of kR; (try simp only [wrC, instC, nodeC, patC, zzT, zzO, zzS] at cR); have fR := frees_of kR; have cP := cells_of kP; (try simp only [wrC, instC, nodeC, patC, zzT, zzO, zzS] at cP); have fP := frees_of kP)
          | (go_at_call 46; refine (lay_any (HW.out.newer hU0).again { op := 14 } HG1.out.ok.len).mono ?_; rintro e w ⟨rfl, cv1, hA⟩; clear cR fR cP fP; replace kR := (hA.upd).heap kR (tok_wr (HW.out.newer hU0) kR); replace kP := (hA.upd).heap kP (tok_wr (HW.out.newer hU0) kP); have hN1 := (HW.out.newer hU0).trans hA; clear hA; clear HW hU0 hz k0 c0 f0; have HW := Lib.hid hN1; clear hN1; have k0 := HW.out.blk; have hU0 := Upd.refl (fun k => w.heap.size ≤ k) w; have hz := Nat.le_refl w.heap.size; have c0 := cells_of k0; (try simp only [wrC, instC, nodeC, patC, zzT, zzO, zzS] at c0); have f0 := frees_of k0; have cR := cells_of kR; (try simp only [wrC, instC, nodeC, patC, zzT, zzO, zzS] at cR); have fR := frees_of kR; have cP := cells_of kP; (try simp only [wrC, instC, nodeC, patC, zzT, zzO, zzS] at cP); have fP := frees_of kP))
        rw [HS2.out] at k0 HW
        obtain ⟨ca, cc, hcv⟩ := HW.out.cform
        subst hcv
        clear c0 f0
        have c0 := cells_of k0; (try simp only [wrC, instC, nodeC, patC, zzT, zzO, zzS] at c0); have f0 := frees_of k0
        have e0 := HW0.out
        subst e0
        have hq2 := HQ.out
        have hwb : w0.heap.size ≤ b0 := g0
        by_cases hbig : s2.long = true ∨ 2000 < s2.code.length
        · rw [if_pos hbig] at hq2
          have e := Option.some.inj hq2
          simp only [Prod.mk.injEq] at e
          obtain ⟨rfl, rfl⟩ := e
          clear hq2 HQ
          have FU : Upd (fun _ => False) w0 w := ⟨HW.out.upd.os, HW.out.upd.tape, HW.out.upd.output, HW.out.upd.size, fun i hi _ => HW.out.upd.block i hi (fun e => e.elim (fun e => by omega) (fun e => by simp [Value.ownBlock] at e))⟩
          have FINU := fun (w9 : World) (hu : Upd (fun j => j = bR) w w9) => FU.then hu (fun i hi (e : i = bR) => by omega)
          have FINU := Lib.hid FINU
          clear FU
          cases hlg : s2.long
          · have g2 : (2000 : Int) < (s2.code.length : Int) := by
              rcases hbig with h | h
              · rw [hlg] at h; cases h
              · omega
            simp only [hlg] at c0
            clear hlg hbig
            go_wp2_with (first | ((with_reducible refine stopSt 31 _ _ rfl ?_); unfold Stop; refine wpList_store_blk rfl 31 _ _ rfl _ _ rfl _ (by go_simp; first | done | exact rfl) _ _ _ kR (zzB rfl) (by kernel_rfl) rfl (by simp only [spl, Value.cells, zzT, zzO, zzS, Array.toList]; exact rfl) ?_; intro w9 k9 hu9 hs9))
            exact bodyPost_ret (v := .tuple #[.agg _, .int .i64 33]) (results_blk_tmp Try.results29 _ _ bR 31 _ (0, 0) _ rfl k9 Try.underlying31 rfl (by kernel_rfl)) rfl ⟨.slice none 0 0, rfl, CodeAt.none _, FINU.out w9 hu9⟩
          · simp only [hlg] at c0
            clear hlg hbig
            go_wp2_with (first | ((with_reducible refine stopSt 31 _ _ rfl ?_); unfold Stop; refine wpList_store_blk rfl 31 _ _ rfl _ _ rfl _ (by go_simp; first | done | exact rfl) _ _ _ kR (zzB rfl) (by kernel_rfl) rfl (by simp only [spl, Value.cells, zzT, zzO, zzS, Array.toList]; exact rfl) ?_; intro w9 k9 hu9 hs9))
            exact bodyPost_ret (v := .tuple #[.agg _, .int .i64 33]) (results_blk_tmp Try.results29 _ _ bR 31 _ (0, 0) _ rfl k9 Try.underlying31 rfl (by kernel_rfl)) rfl ⟨.slice none 0 0, rfl, CodeAt.none _, FINU.out w9 hu9⟩
        · rw [if_neg hbig] at hq2
          have e := Option.some.inj hq2
          simp only [Prod.mk.injEq] at e
          obtain ⟨rfl, rfl⟩ := e
          clear hq2 HQ
          have hlg : s2.long = false := by cases e : s2.long; rfl; exact absurd (.inl e) hbig
          have g2 : ¬ (2000 : Int) < (s2.code.length : Int) := fun h => hbig (.inr (by omega))
          simp only [hlg] at c0
          clear hlg hbig
          have HWd := Lib.hid (HW.out.newer hU0.drew)
          obtain ⟨wd, hwd⟩ : ∃ wd, w.drew = wd := ⟨_, rfl⟩
          rw [hwd] at HWd
          have kRd : wd.heap[bR]? = some (.cells #[.slice none 0 0, .int .i64 0, .bool false] 31 (0, 0)) := by rw [← hwd]; exact kR
          have FU : Upd (fun _ => False) w0 wd := ⟨HWd.out.upd.os, HWd.out.upd.tape, HWd.out.upd.output, HWd.out.upd.size, fun i hi _ => HWd.out.upd.block i hi (fun e => e.elim (fun e => by omega) (fun e => by simp [Value.ownBlock] at e))⟩
          have FINU : ∀ (w9 : World) (hu : Upd (fun j => j = bR) wd w9), Upd (fun _ => False) w0 w9 := fun w9 hu => FU.then hu (fun i hi (e : i = bR) => by omega)
          have hoc := HWd.out.own
          have FINO : ∀ (w9 : World) (hu : Upd (fun j => j = bR) wd w9), CodeAt w9 (.slice ca s2.code.length cc) s2.code := fun w9 hu => ownsRow_base (ownsRow_upd hoc hu (fun g hg (e : g = bR) => prog_inst hoc hg (show wd.heap[g]? = some (.cells #[.slice none 0 0, .int .i64 0, .bool false] 31 (0, 0)) by rw [show g = bR from e]; exact kRd))) (fun _ _ => Nat.zero_le _)
          by_cases hc0 : p.case = 0
          · have HF : Hid ((if p.case = 0 then fold else p.case == 1) = fold) := Lib.hid (if_pos hc0)
            go_wp2
            have d4 := cell_of HWd.out.blk 4 (v := .slice ca s2.code.length cc) rfl
            have d5 := cell_of HWd.out.blk 5 (v := .int .i64 (s2.r : Nat)) rfl
            refine wp_region_seq (fun v => v = wd) (fun i => i != 10 && i != 11) [(0, true), (1, true), (2, true), (3, true), (4, true), (5, true), (6, true), (7, true), (8, true), (9, true), (10, false), (11, false)] (by exact rfl) (by kernel_rfl) (by intro c a d v w h; cases d <;> exact h) ?_
            rw [hwd]; have hS : wd = wd := rfl
            iterate 10 (((apply seq_val2 rfl (by rfl); (focus (intro w' hS'; subst hS'; go_simp; (first | done | exact rfl | (rw [if_pos (by omega)]; done)))); (focus exact hS))); (try simp only [Act.put, zzT, zzO, zzS]))
            refine seq_loud2 rfl (fun K hK => ?_)
            rw [if_pos (by rfl)]; refine wp_store_blk 31 _ _ rfl bR 0 rfl (.agg #[.slice ca s2.code.length cc, .int .i64 (s2.r : Nat), .bool fold]) rfl _ _ _ kRd (zzB rfl) (by kernel_rfl) rfl (by simp only [spl, Value.cells, zzT, zzO, zzS, Array.toList]; exact rfl) ?_; intro w9 k9 hu9 hs9; refine hK _ _ (fun e => by cases e) ?_; clear hK K
            (try simp only [Act.put, zzT, zzO, zzS])
            refine seq_loud2 rfl (fun K hK => ?_)
            go_simp; refine hK _ _ (fun e => by cases e) ?_; clear hK K
            (try simp only [Act.put, zzT, zzO, zzS])
            refine seq_nil ?_
            go_wp2
            exact bodyPost_ret (v := .tuple #[.agg _, .int .i64 0]) (results_blk_tmp Try.results29 _ _ bR 31 _ (0, 0) _ rfl k9 Try.underlying31 rfl (by kernel_rfl)) rfl ⟨.slice ca s2.code.length cc, (by simp only [progC, HF.out]), FINO w9 hu9, FINU w9 hu9⟩
          · have HF : Hid ((if p.case = 0 then fold else p.case == 1) = (p.case == 1)) := Lib.hid (if_neg hc0)
            go_wp2
            have d4 := cell_of HWd.out.blk 4 (v := .slice ca s2.code.length cc) rfl
            have d5 := cell_of HWd.out.blk 5 (v := .int .i64 (s2.r : Nat)) rfl
            refine wp_region_seq (fun v => v = wd) (fun i => i != 10 && i != 11) [(0, true), (1, true), (2, true), (3, true), (4, true), (5, true), (6, true), (7, true), (8, true), (9, true), (10, false), (11, false)] (by exact rfl) (by kernel_rfl) (by intro c a d v w h; cases d <;> exact h) ?_
            rw [hwd]; have hS : wd = wd := rfl
            iterate 10 (((apply seq_val2 rfl (by rfl); (focus (intro w' hS'; subst hS'; go_simp; (first | done | exact rfl | (rw [if_pos (by omega)]; done)))); (focus exact hS))); (try simp only [Act.put, zzT, zzO, zzS]))
            refine seq_loud2 rfl (fun K hK => ?_)
            rw [if_pos (by rfl)]; refine wp_store_blk 31 _ _ rfl bR 0 rfl (.agg #[.slice ca s2.code.length cc, .int .i64 (s2.r : Nat), .bool (p.case == 1)]) rfl _ _ _ kRd (zzB rfl) (by kernel_rfl) rfl (by simp only [spl, Value.cells, zzT, zzO, zzS, Array.toList]; exact rfl) ?_; intro w9 k9 hu9 hs9; refine hK _ _ (fun e => by cases e) ?_; clear hK K
            (try simp only [Act.put, zzT, zzO, zzS])
            refine seq_loud2 rfl (fun K hK => ?_)
            go_simp; refine hK _ _ (fun e => by cases e) ?_; clear hK K
            (try simp only [Act.put, zzT, zzO, zzS])
            refine seq_nil ?_
            go_wp2
            exact bodyPost_ret (v := .tuple #[.agg _, .int .i64 0]) (results_blk_tmp Try.results29 _ _ bR 31 _ (0, 0) _ rfl k9 Try.underlying31 rfl (by kernel_rfl)) rfl ⟨.slice ca s2.code.length cc, (by simp only [progC, HF.out]), FINO w9 hu9, FINU w9 hu9⟩
end Go.Proofs.Ytigbfgmgdfnhcaa
namespace Go.Proofs.Ytigbfgmgdfnhcaa
open Go.RowKit
theorem soundL_some {rec : Nat → List Bool → Option (Bool × List Bool)} : ∀ (ks : List Nat) (s : List Bool), (∀ k, k ∈ ks → ∀ s, ∃ q, rec k s = some q) → ∃ q, soundL rec ks s = some q
  | [], s, _ => ⟨_, rfl⟩
  | k :: ks, s, hr => by
    obtain ⟨⟨b, s2⟩, e⟩ := hr k (List.mem_cons_self) s
    unfold soundL
    rw [e]
    cases b
    · exact ⟨_, rfl⟩
    · exact soundL_some ks s2 (fun j hj => hr j (List.mem_cons_of_mem _ hj))
theorem kids_lt {ns : List NodeD} (h : NodesOK ns) (k : Nat) : ∀ j, j ∈ (ns.getD k .zero).kids → j < k := by
  intro j hj
  by_cases hk : k < ns.length
  · rw [List.getD_eq_getElem?_getD, List.getElem?_eq_getElem hk] at hj; exact (h k hk).2 j hj
  · rw [List.getD_eq_getElem?_getD, List.getElem?_eq_none (by omega)] at hj; simp [NodeD.zero] at hj
theorem soundF_some {p : PatD} (h : NodesOK p.nodes) : ∀ (f k : Nat) (s : List Bool), k < f → ∃ q, soundF p f k s = some q
  | 0, k, s, hk => absurd hk (Nat.not_lt_zero _)
  | f + 1, k, s, hk => by
    unfold soundF
    split
    · exact ⟨_, rfl⟩
    · split
      · exact ⟨_, rfl⟩
      · obtain ⟨⟨b, s2⟩, e⟩ := soundL_some (rec := soundF p f) (p.nodes.getD k .zero).kids (s.set k true) (fun j hj s => soundF_some h f j s (by have := kids_lt h k j hj; omega))
        rw [e]
        cases b <;> exact ⟨_, rfl⟩
theorem soundP_some {p : PatD} (h : NodesOK p.nodes) : ∃ b, soundP p = some b := by
  unfold soundP
  split
  · exact ⟨_, rfl⟩
  · by_cases hr : p.root < p.nodes.length
    · obtain ⟨⟨b, s⟩, e⟩ := soundF_some h (p.nodes.length + 1) p.root (List.replicate p.nodes.length false) (by omega)
      rw [e]; exact ⟨_, rfl⟩
    · unfold soundF
      rw [if_pos (.inl (by omega))]
      exact ⟨_, rfl⟩
theorem round_some {rec : Nat → WrD → Option WrD} {k : Nat} (hr : ∀ s, ∃ q, rec k s = some q) (w : WrD) : ∃ q, w.round rec k = some q := by
  unfold WrD.round
  obtain ⟨q, e⟩ := hr ({ (w.lay { op := 4 }).2 with r := (w.lay { op := 4 }).2.r + 1 }.lay { op := 12, x := ((w.lay { op := 4 }).2.r : Int) }).2
  rw [e]; exact ⟨_, rfl⟩
theorem manyA_some {rec : Nat → WrD → Option WrD} {k : Nat} (hr : ∀ s, ∃ q, rec k s = some q) : ∀ (n : Nat) (w : WrD), ∃ q, manyA rec k n w = some q
  | 0, w => ⟨_, rfl⟩
  | n + 1, w => by
    unfold manyA
    split
    · exact ⟨_, rfl⟩
    · obtain ⟨q, e⟩ := hr w
      rw [e]; exact manyA_some hr n q
theorem manyB_some {rec : Nat → WrD → Option WrD} {k : Nat} (hr : ∀ s, ∃ q, rec k s = some q) : ∀ (n : Nat) (w : WrD) (l : List Nat), ∃ q, manyB rec k n w l = some q
  | 0, w, l => ⟨_, rfl⟩
  | n + 1, w, l => by
    unfold manyB
    split
    · exact ⟨_, rfl⟩
    · obtain ⟨⟨j, q⟩, e⟩ := round_some hr w
      rw [e]; exact manyB_some hr n q _
theorem altL_some {rec : Nat → WrD → Option WrD} : ∀ (ks : List Nat) (w : WrD) (l : List Nat), (∀ k, k ∈ ks → ∀ s, ∃ q, rec k s = some q) → ∃ q, altL rec ks w l = some q
  | [], w, l, _ => ⟨_, rfl⟩
  | [k], w, l, hr => by
    unfold altL
    split
    · exact ⟨_, rfl⟩
    · obtain ⟨q, e⟩ := hr k (List.mem_cons_self) w
      rw [e]; exact ⟨_, rfl⟩
  | k :: k2 :: ks, w, l, hr => by
    unfold altL
    split
    · exact ⟨_, rfl⟩
    · obtain ⟨q, e⟩ := hr k (List.mem_cons_self) (w.lay { op := 4 }).2
      rw [e]; exact altL_some (k2 :: ks) _ _ (fun j hj => hr j (List.mem_cons_of_mem _ hj))
theorem catL_some {rec : Nat → WrD → Option WrD} : ∀ (ks : List Nat) (w : WrD), (∀ k, k ∈ ks → ∀ s, ∃ q, rec k s = some q) → ∃ q, catL rec ks w = some q
  | [], w, _ => ⟨_, rfl⟩
  | k :: ks, w, hr => by
    unfold catL
    obtain ⟨q, e⟩ := hr k (List.mem_cons_self) w
    rw [e]; exact catL_some ks q (fun j hj => hr j (List.mem_cons_of_mem _ hj))
theorem nodeW_some {rec : Nat → WrD → Option WrD} {n : NodeD} (hr : ∀ k, k ∈ n.kids → ∀ s, ∃ q, rec k s = some q) (ho : n.op = 7 ∨ n.op = 8 → n.kids.length = 1) (w : WrD) : ∃ q, w.node rec n = some q := by
  have hd : n.op = 7 ∨ n.op = 8 → ∀ s, ∃ q, rec (n.kids.headD 0) s = some q := fun e => by
    have h1 := ho e
    obtain ⟨k, hk⟩ : ∃ k, n.kids = [k] := by
      match n.kids, h1 with
      | [k], _ => exact ⟨k, rfl⟩
    rw [hk]
    exact hr k (by rw [hk]; exact List.mem_cons_self)
  unfold WrD.node
  by_cases h0 : w.long = true
  · rw [if_pos h0]; exact ⟨_, rfl⟩
  rw [if_neg h0]
  by_cases h2 : n.op = 2
  · rw [if_pos h2]; exact ⟨_, rfl⟩
  rw [if_neg h2]
  by_cases h3 : n.op = 3
  · rw [if_pos h3]; exact ⟨_, rfl⟩
  rw [if_neg h3]
  by_cases h4 : n.op = 4
  · rw [if_pos h4]; exact ⟨_, rfl⟩
  rw [if_neg h4]
  by_cases h5 : n.op = 5
  · rw [if_pos h5]; exact catL_some _ _ hr
  rw [if_neg h5]
  by_cases h6 : n.op = 6
  · rw [if_pos h6]
    unfold WrD.alt
    obtain ⟨⟨q, l⟩, e⟩ := altL_some n.kids w [] hr
    rw [e]; exact ⟨_, rfl⟩
  rw [if_neg h6]
  by_cases h7 : n.op = 7
  · rw [if_pos h7]
    have hr7 := hd (.inl h7)
    unfold WrD.many
    obtain ⟨s, e⟩ := manyA_some hr7 n.min.toNat w
    rw [e]
    by_cases hl : s.long = true
    · exact ⟨_, if_pos hl⟩
    · by_cases hm : n.max < 0
      · obtain ⟨⟨j, q⟩, e⟩ := round_some hr7 s
        refine Exists.imp (fun q h => (if_neg hl).trans ((if_pos hm).trans h)) ?_
        rw [e]; exact ⟨_, rfl⟩
      · obtain ⟨⟨q, l⟩, e⟩ := manyB_some hr7 (n.max - n.min).toNat s []
        refine Exists.imp (fun q h => (if_neg hl).trans ((if_neg hm).trans h)) ?_
        rw [e]; exact ⟨_, rfl⟩
  rw [if_neg h7]
  by_cases h8 : n.op = 8
  · rw [if_pos h8]
    obtain ⟨q, e⟩ := hd (.inr h8) (w.lay { op := 6, x := 2 * n.n }).2
    rw [e]; exact ⟨_, rfl⟩
  rw [if_neg h8]
  by_cases h9 : n.op = 9
  · rw [if_pos h9]; exact ⟨_, rfl⟩
  rw [if_neg h9]
  by_cases h10 : n.op = 14
  · rw [if_pos h10]; exact ⟨_, rfl⟩
  rw [if_neg h10]
  by_cases h11 : n.op = 15
  · rw [if_pos h11]; exact ⟨_, rfl⟩
  rw [if_neg h11]
  by_cases h12 : n.op = 10 ∨ n.op = 11 ∨ n.op = 12 ∨ n.op = 13
  · rw [if_pos h12]; exact ⟨_, rfl⟩
  rw [if_neg h12]; exact ⟨_, rfl⟩
theorem nodeF_some {ns : List NodeD} (h : NodesOK ns) : ∀ (f k : Nat) (w : WrD), k < f → ∃ q, nodeF ns f k w = some q
  | 0, k, w, hk => absurd hk (Nat.not_lt_zero _)
  | f + 1, k, w, hk => by
    unfold nodeF
    refine nodeW_some (fun j hj s => nodeF_some h f j s (by have := kids_lt h k j hj; omega)) ?_ w
    by_cases hl : k < ns.length
    · rw [List.getD_eq_getElem?_getD, List.getElem?_eq_getElem hl]; exact (h k hl).1.one
    · rw [List.getD_eq_getElem?_getD, List.getElem?_eq_none (by omega)]; intro e; simp [NodeD.zero] at e
theorem compileF_some {p : PatD} (h : PatOK p) (hr : p.root < p.nodes.length) (fold : Bool) : ∃ q er, compileF p fold = some (q, er) := by
  unfold compileF
  obtain ⟨b, e⟩ := soundP_some h.ok
  rw [e]
  cases b
  · exact ⟨_, _, rfl⟩
  · obtain ⟨w, e⟩ := nodeF_some h.ok (p.nodes.length + 1) p.root ⟨[], 0, false⟩ (by omega)
    simp only [e]
    split <;> exact ⟨_, _, rfl⟩
end Go.Proofs.Ytigbfgmgdfnhcaa
