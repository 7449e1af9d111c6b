/- Lemmas that the law's proof stands on, part 16: PatT, PatU. No condition. -/
import Derived.Test.YtigbfgmgdfnhcaaBaseA0
import Derived.Test.YtigbfgmgdfnhcaaBaseA15
set_option linter.all false
set_option linter.unusedVariables false
set_option linter.unusedSimpArgs false
namespace Go.Proofs.Ytigbfgmgdfnhcaa
open Go.RowKit
/-- A reader, and a row of numbers that is new since the world W. -/
structure Nob (W : World) (B rb : Nat) (s : ByteArray) (nv0 : Value) (Z0 : Nat → Prop) (st : RdD) (ks : List Nat) (nv : Value) (kvs : List Value) (kv : Value) (Z : Nat → Prop) (w : World) : Prop where
  rd : RdAt w B rb s st nv kvs Z
  own : w.ownsRow W.heap.size 3 1 kv ks.length (ks.map fun k => Value.int .i64 ((k : Nat) : Int))
  sep : ∀ g, kv.ownBlock = some g → ¬ Z g
  upd : Upd (fun k => k = rb ∨ nv0.ownBlock = some k) W w
  nvn : ∀ g, nv.ownBlock = some g → nv0.ownBlock = some g ∨ W.heap.size ≤ g
  zin : ∀ k, Z0 k → Z k
  zout : ∀ k, Z k → Z0 k ∨ W.heap.size ≤ k
  base : B ≤ W.heap.size
section
variable {W : World} {B rb : Nat} {s : ByteArray} {nv0 : Value} {Z0 : Nat → Prop} {st : RdD} {ks : List Nat} {nv : Value} {kvs : List Value} {kv : Value} {Z : Nat → Prop} {w : World}
theorem Nob.bse (h : Nob W B rb s nv0 Z0 st ks nv kvs kv Z w) : B ≤ w.heap.size := Nat.le_trans h.base h.upd.size
theorem Nob.kvlt (h : Nob W B rb s nv0 Z0 st ks nv kvs kv Z w) {g : Nat} (hg : kv.ownBlock = some g) : g < w.heap.size ∧ W.heap.size ≤ g := ⟨(h.own.lt g hg).2, (h.own.lt g hg).1⟩
theorem Nob.kvne (h : Nob W B rb s nv0 Z0 st ks nv kvs kv Z w) {g : Nat} (hg : kv.ownBlock = some g) : g ≠ rb ∧ nv.ownBlock ≠ some g := by
  obtain ⟨cs, hc⟩ := ownBlock_int h.own hg
  refine ⟨fun e => ?_, fun e => ?_⟩
  · rw [e, h.rd.blk] at hc; simp at hc
  · obtain ⟨cs2, hc2⟩ := ownBlock_node h.rd.own e
    rw [hc2] at hc; simp at hc
theorem Nob.newer (h : Nob W B rb s nv0 Z0 st ks nv kvs kv Z w) {w' : World} (hu : Upd (fun k => w.heap.size ≤ k) w w') : Nob W B rb s nv0 Z0 st ks nv kvs kv Z w' := by
  have hsz := h.upd.size
  exact ⟨h.rd.newer h.rd hu, ownsRow_upd h.own hu (fun g hg => by have := h.kvlt hg; omega), h.sep, h.upd.then hu (fun i hi (hh : _ ≤ i) => absurd hi (by omega)), h.nvn, h.zin, h.zout, h.base⟩
theorem Nob.put (h : Nob W B rb s nv0 Z0 st ks nv kvs kv Z w) {w' : World} {st2 : RdD} (hk : w'.heap[rb]? = some (.cells (rdC s st2 nv) 96 (0, 0))) (hu : Upd (fun k => k = rb) w w') (hn : st2.nodes = st.nodes) (hd : st2.done.length = 10) : Nob W B rb s nv0 Z0 st2 ks nv kvs kv Z w' :=
  ⟨h.rd.set hu hk hn hd, ownsRow_upd h.own hu (fun g hg e => (h.kvne hg).1 e), h.sep, h.upd.then hu (fun _ _ e => .inl e), h.nvn, h.zin, h.zout, h.base⟩
theorem Nob.to (h : Nob W B rb s nv0 Z0 st ks nv kvs kv Z w) {w' : World} {st2 : RdD} (hr : RdTo w B rb s nv Z (fun _ => False) st2 w') : ∃ nv' kvs' Z', Nob W B rb s nv0 Z0 st2 ks nv' kvs' kv Z' w' := by
  obtain ⟨nv', kvs', Z', h1, h2, h3, h4, h5⟩ := hr
  have hsz := h.upd.size
  refine ⟨nv', kvs', Z', h1, ownsRow_upd h.own h2 (fun g hg e => e.elim (h.kvne hg).1 (h.kvne hg).2), fun g hg hz => ?_, h.upd.then h2 (fun i hi e => ?_), fun g hg => ?_, fun k hk => h4 k (h.zin k hk), fun k hk => ?_, h.base⟩
  · rcases h5 g hz with e | e | e
    · exact h.sep g hg e
    · exact e
    · have := h.kvlt hg; omega
  · rcases e with e | e
    · exact .inl e
    · rcases h.nvn i e with e2 | e2
      · exact .inr e2
      · omega
  · rcases h3 g hg with e | e
    · exact h.nvn g e
    · exact .inr (by omega)
  · rcases h5 k hk with e | e | e
    · exact h.zout k e
    · exact e.elim
    · exact .inr (by omega)
/-- The row has grown. -/
theorem Nob.grow (h : Nob W B rb s nv0 Z0 st ks nv kvs kv Z w) {w' : World} {kv' : Value} {ks2 : List Nat} (ho : w'.ownsRow W.heap.size 3 1 kv' ks2.length (ks2.map fun k => Value.int .i64 ((k : Nat) : Int))) (hu : Upd (fun k => kv.ownBlock = some k) w w') (hn : ∀ g, kv'.ownBlock = some g → kv.ownBlock = some g ∨ w.heap.size ≤ g) :
    Nob W B rb s nv0 Z0 st ks2 nv kvs kv' Z w' := by
  refine ⟨h.rd.upd hu (fun e => (h.kvne e).1 rfl) (fun g hg e => (h.kvne e).2 hg) (fun k hk e => h.sep k e hk), ho, fun g hg hz => ?_, h.upd.then hu (fun i hi e => ?_), h.nvn, h.zin, h.zout, h.base⟩
  · rcases hn g hg with e | e
    · exact h.sep g e hz
    · have := h.rd.lts.2.2 g hz; omega
  · have := h.kvlt e; omega
theorem Nob.fin (h : Nob W B rb s nv0 Z0 st ks nv kvs kv Z w) {w2 : World} {st2 : RdD} (hT : RdTo w B rb s nv Z (fun k => kv.ownBlock = some k) st2 w2) : RdTo W B rb s nv0 Z0 (fun _ => False) st2 w2 := by
  obtain ⟨nv', kvs', Z', h1, h2, h3, h4, h5⟩ := hT
  have hsz := h.upd.size
  refine ⟨nv', kvs', Z', h1, h.upd.then h2 (fun i hi e => ?_), fun g hg => ?_, fun k hk => h4 k (h.zin k hk), fun k hk => ?_⟩
  · rcases e with e | e
    · exact .inl e
    · rcases h.nvn i e with e2 | e2
      · exact .inr e2
      · omega
  · rcases h3 g hg with e | e
    · exact h.nvn g e
    · exact .inr (by omega)
  · rcases h5 k hk with e | e | e
    · rcases h.zout k e with e2 | e2
      · exact .inl e2
      · exact .inr (.inr e2)
    · exact .inr (.inr (h.kvlt e).2)
    · exact .inr (.inr (by omega))
end
theorem nob_start {W w w2 : World} {B rb b k : Nat} {s : ByteArray} {st2 : RdD} {nv : Value} {Z : Nat → Prop} (hB : B ≤ W.heap.size) (hT : RdTo W B rb s nv Z (fun _ => False) st2 w) (hu : Upd (fun _ => False) w w2) (hb : w.heap.size = b) (hk : w2.heap[b]? = some (.cells #[.int .i64 (k : Nat)] 3 (0, 0))) :
    ∃ nv' kvs' Z', Nob W B rb s nv Z st2 [k] nv' kvs' (.slice (some ⟨b, 0, none⟩) 1 1) Z' w2 := by
  obtain ⟨nv', kvs', Z', h1, h2, h3, h4, h5⟩ := hT
  have hsz := h2.size
  refine ⟨nv', kvs', Z', h1.upd hu (fun h => h) (fun _ _ h => h) (fun _ _ h => h), ⟨by simp [Value.oneCell'], .inr ⟨b, 1, _, rfl, by omega, hk, Nat.le_refl _, by decide, rfl, rfl⟩⟩, fun g hg hz => ?_, h2.then hu (fun _ _ h => h.elim), h3, h4, fun k hk => ?_, hB⟩
  · simp only [Value.ownBlock, Option.some.injEq] at hg
    have := h1.lts.2.2 g hz
    omega
  · rcases h5 k hk with e | e | e
    · exact .inl e
    · exact e.elim
    · exact .inr e
end Go.Proofs.Ytigbfgmgdfnhcaa
namespace Go.Proofs.Ytigbfgmgdfnhcaa
open Go.RowKit
section
variable {rec : RdD → Option (Nat × RdD)} {l : List UInt8} {within : Bool} {g : Nat} {r : RdD} {ks : List Nat} {q : RdD × List Nat}
theorem bs_stop (h : branchesL rec l within (g + 1) r ks = some q) (hs : r.err ≠ 0 ∨ l.length ≤ r.pos) : q = (r, ks) := by
  unfold branchesL at h; rw [if_pos hs] at h; exact (Option.some.inj h).symm
theorem bs_end (h : branchesL rec l within (g + 1) r ks = some q) (hs : ¬ (r.err ≠ 0 ∨ l.length ≤ r.pos)) (ht : (tokenF l r.mode r.case r.pos).1.sign ≠ 124) : q = (r, ks) := by
  unfold branchesL at h; rw [if_neg hs, if_pos ht] at h; exact (Option.some.inj h).symm
theorem bs_on (h : branchesL rec l within (g + 1) r ks = some q) (hs : ¬ (r.err ≠ 0 ∨ l.length ≤ r.pos)) (ht : (tokenF l r.mode r.case r.pos).1.sign = 124) : ∃ k s, branchF rec l within { r with pos := (tokenF l r.mode r.case r.pos).1.next } = some (k, s) ∧ branchesL rec l within g s (ks ++ [k]) = some q := by
  unfold branchesL at h; rw [if_neg hs, if_neg (fun h => h ht)] at h
  split at h
  · cases h
  · rename_i k s e
    exact ⟨k, s, e, h⟩
end
theorem bl_nodes {rec : RdD → Option (Nat × RdD)} (hr : RecN rec) {l : List UInt8} {within : Bool} : ∀ (g : Nat) (st st2 : RdD) (b b2 : BrD), Fine st b → branchL rec l within g st b = some (st2, b2) → Fine st2 b2
  | 0, st, st2, b, b2, _, h => by unfold branchL at h; cases h
  | g + 1, st, st2, b, b2, hF, h => by
    by_cases hs : st.err ≠ 0 ∨ l.length ≤ st.pos
    · have e := bl_stop h hs; rw [Prod.mk.injEq] at e; rw [e.1, e.2]; exact hF
    · obtain ⟨q, ht⟩ : ∃ q, tokenF l st.mode st.case st.pos = q := ⟨_, rfl⟩
      obtain ⟨t, ok⟩ := q
      cases ok
      · have e := bl_bad h hs ht rfl; rw [Prod.mk.injEq] at e; rw [e.1, e.2]; exact (Stp.wrong hF _ _).fine
      · cases hn : t.non
        · have h2 := bl_rest h hs ht hn
          split at h2
          · have e := Option.some.inj h2; rw [Prod.mk.injEq] at e; rw [← e.1, ← e.2]; exact hF
          · split at h2
            · have e := Option.some.inj h2; rw [Prod.mk.injEq] at e; rw [← e.1, ← e.2]; exact (Stp.wrong hF _ _).fine
            · split at h2
              · split at h2
                · cases h2
                · rename_i s1 b1 hsg
                  exact bl_nodes hr g s1 st2 b1 b2 (Stp.sign hr hF hsg).fine h2
              · split at h2
                · have e := Option.some.inj h2; rw [Prod.mk.injEq] at e; rw [← e.1, ← e.2]; exact (Stp.wrong hF _ _).fine
                · exact bl_nodes hr g _ st2 _ b2 (Stp.laid (st := { st with pos := t.next }) (b := b) hF.len).fine h2
        · exact bl_nodes hr g { st with mode := t.mode, case := t.case, pos := t.next } st2 b b2 ⟨hF.len, hF.may⟩ (bl_non h hs ht hn)
theorem row_nodes {st : RdD} (op : Int) (ks : List Nat) (h : st.nodes.length ≤ 401) : (st.row op ks).2.nodes.length ≤ 401 := by
  match ks with
  | [] => exact node_len h
  | [k] => exact h
  | a :: b :: ks => exact node_len h
theorem bf_nodes {rec : RdD → Option (Nat × RdD)} (hr : RecN rec) {l : List UInt8} {within : Bool} {st st2 : RdD} {k : Nat} (h : st.nodes.length ≤ 401) (hq : branchF rec l within st = some (k, st2)) : st2.nodes.length ≤ 401 := by
  unfold branchF at hq
  split at hq
  · cases hq
  · rename_i s b hb
    have hF := bl_nodes hr _ _ _ _ _ (show Fine st ⟨[], false⟩ from ⟨h, fun e => by cases e⟩) hb
    have e := congrArg Prod.snd (Option.some.inj hq)
    simp only [] at e
    rw [← e]
    exact row_nodes 5 b.kids hF.len
theorem bs_nodes {rec : RdD → Option (Nat × RdD)} (hr : RecN rec) {l : List UInt8} {within : Bool} : ∀ (g : Nat) (st st2 : RdD) (ks ks2 : List Nat), st.nodes.length ≤ 401 → branchesL rec l within g st ks = some (st2, ks2) → st2.nodes.length ≤ 401
  | 0, st, st2, ks, ks2, _, h => by unfold branchesL at h; cases h
  | g + 1, st, st2, ks, ks2, hl, h => by
    by_cases hs : st.err ≠ 0 ∨ l.length ≤ st.pos
    · have e := bs_stop h hs; rw [Prod.mk.injEq] at e; rw [e.1]; exact hl
    · by_cases ht : (tokenF l st.mode st.case st.pos).1.sign = 124
      · obtain ⟨k, s, h1, h2⟩ := bs_on h hs ht
        exact bs_nodes hr g s st2 _ ks2 (bf_nodes (st := { st with pos := (tokenF l st.mode st.case st.pos).1.next }) hr hl h1) h2
      · have e := bs_end h hs ht; rw [Prod.mk.injEq] at e; rw [e.1]; exact hl
theorem bss_nodes (l : List UInt8) (within : Bool) : ∀ d, RecN (branchesF l d within)
  | 0 => fun st k st2 _ h => by unfold branchesF at h; cases h
  | d + 1 => fun st k st2 hl h => by
    have hr := bss_nodes l true d
    unfold branchesF at h
    split at h
    · cases h
    · rename_i k1 s1 h1
      have hl1 := bf_nodes hr hl h1
      split at h
      · cases h
      · rename_i s2 ks2 h2
        have hl2 := bs_nodes hr _ _ _ _ _ hl1 h2
        have e := congrArg Prod.snd (Option.some.inj h)
        simp only [] at e
        rw [← e]
        exact row_nodes 6 ks2 hl2
set_option maxRecDepth 100000 in
set_option maxHeartbeats 16000000 in
theorem branches_step {B rb : Nat} {s : ByteArray} {st : RdD} {nv : Value} {kvs : List Value} {Z : Nat → Prop} {w : World} (h : RdAt w B rb s st nv kvs Z) (hB : B ≤ w.heap.size)
    (rec : RdD → Option (Nat × RdD)) (hrec : RecC s rec) (hrn : RecN rec) (hs : s.size ≤ 900) (hl : st.nodes.length ≤ 401) (within : Bool) (k k1 : Nat) (s1 st2 sE : RdD) (kE : List Nat)
    (hq1 : branchF rec s.data.toList within st = some (k1, s1)) (hq2 : branchesL rec s.data.toList within (s.size + 1) s1 [k1] = some (sE, kE)) (hq3 : sE.row 6 kE = (k, st2)) :
    Calls Try.prog 43 #[.pointer (some ⟨rb, 0, none⟩), .bool within] w (BrPost w B rb s nv Z k st2) := by
  have HL : Hid (s.data.toList.length = s.size) := Lib.hid (by simp)
  have HR := Lib.hid h
  have HREC := Lib.hid hrec
  have HRN := Lib.hid hrn
  have HNL1 := Lib.hid (bf_nodes hrn hl hq1)
  have HBF1 := Lib.hid hq1
  have HBL := Lib.hid hq2
  have HROW := Lib.hid hq3
  clear h hrec hrn hq1 hq2 hq3
  obtain ⟨i0, hi, hz0, hz1', hz2⟩ := info_parts info_int
  go_enter Try.func43, Try.ntmps43
  go_wp2_with (first
    | (go_at_call 61; refine (branch_any HR.out hB rec HREC.out HRN.out hs hl within k1 s1 HBF1.out).mono ?_; rintro e w1 ⟨rfl, hT⟩)
    | ((with_reducible refine stopBS 51 _ _ rfl ?_); unfold Stop; refine wpList_sliceLit_blk rfl 51 3 1 _ rfl Try.underlying51 #[.int .i64 (k1 : Nat)] (by go_simp; first | done | rfl | kernel_rfl) ?_; intro bK wn hbn kn hUn hsn; obtain ⟨nv1, kvs1, Z1, hN0⟩ := nob_start hB hT hUn hbn kn; clear hT hUn hbn kn hsn))
  have HN0 := Lib.hid hN0
  clear hN0 HR HBF1
  go_loopg [5] (s.size + 1) (fun gk sv wr => ∃ (st1 : RdD) (ks1 : List Nat) (nv1 : Value) (kvs1 : List Value) (Z1 : Nat → Prop), Nob w B rb s nv Z st1 ks1 nv1 kvs1 sv Z1 wr ∧ Hid (branchesL rec s.data.toList within gk st1 ks1 = some (sE, kE)) ∧ st1.nodes.length ≤ 401 ∧ ks1.length + gk ≤ s.size + 2)
  case atStart => exact ⟨s1, [k1], nv1, kvs1, Z1, HN0.out, HBL, HNL1.out, by simp; omega⟩
  case round =>
    clear HN0 HBL HNL1 nv1 kvs1 Z1
    obtain ⟨st1, ks1, nv1, kvs1, Z1, hN1, HE, hnl, hkg⟩ := hrel
    obtain ⟨kv1, rfl⟩ : ∃ kv1, kv1 = u5 := ⟨_, rfl⟩
    have HN := Lib.hid hN1
    have HNL := Lib.hid hnl
    have HKL : Hid (ks1.length ≤ 1000) := Lib.hid (by omega)
    obtain ⟨w, rfl⟩ : ∃ w, w = wr := ⟨_, rfl⟩
    obtain ⟨g, rfl⟩ : ∃ g, gk = g + 1 := by
      cases gk with
      | zero => have := HE.out; unfold branchesL at this; cases this
      | succ g => exact ⟨g, rfl⟩
    have k0 := hN1.rd.blk
    have hU0 := Upd.refl (fun k => w.heap.size ≤ k) w
    have hz := Nat.le_refl w.heap.size
    clear hN1 hnl hl
    have c17 := cell_of k0 17 (v := .int .i64 st1.err) rfl
    have c1 := cell_of k0 1 (v := .int .i64 st1.pos) rfl
    have c00 := cell_of k0 0 (v := .string s) rfl
    have c0 := cells_of k0; (try simp only [rdC, nodeC, tokC, setC, zzT, zzO, zzS] at c0); have f0 := frees_of k0
    by_cases he : st1.err = 0
    · have ge : (st1.err == 0) = true := by simpa using he
      by_cases hp : s.size ≤ st1.pos
      · have HQ := Lib.hid (bs_stop HE.out (.inr (by rw [HL.out]; exact hp)))
        have gp : ¬ (st1.pos : Int) < (s.size : Int) := by omega
        clear he HE
        go_wp2
        first | (refine wq_region_from_still ?_) | (refine wq_region_from (by kernel_rfl) (by kernel_rfl) ?_)
        repeat
          first
            | ((refine WQ_skip (by rfl) ?_); (try simp only [Act.put, zzT, zzO, zzS]))
            | (apply WQ_val (by rfl); (focus (intro w' hC; have s17 := hC.cell c17; have s1 := hC.cell c1; have s0 := hC.cell c00; go_simp; (first | done | exact rfl | (rw [if_pos (by omega)]; done) | (exact str_idx (by omega))))); (try simp only [Act.put, zzT, zzO, zzS]))
            | (apply WQ_call (by rfl); (focus (intro w' hC; go_simp; (first | done | exact rfl | exact ⟨rfl, rfl⟩))); (focus (intro w' hC; first | fail)); (try simp only [Act.put, zzT, zzO, zzS]))
        refine WQ_nil ?_
        intro wq hq
        have hqU := false_upd2 hq
        clear c17 c1 c00
        clear c0 f0; replace k0 := (hqU).heap k0 (fun h => h); replace hz := Nat.le_trans hz (hqU).size; replace hU0 := hU0.then hqU (fun _ _ h => h.elim); have c0 := cells_of k0; (try simp only [rdC, nodeC, tokC, setC, zzT, zzO, zzS] at c0); have f0 := frees_of k0
        go_wp2_with (first
          | (go_at_call 63; refine (row_any (HN.out.newer hU0).rd (HN.out.newer hU0).bse 6 _ kv1 (nats_of_owns (HN.out.newer hU0).own) (own_ints (HN.out.newer hU0).own) HNL.out HKL.out).mono ?_; rintro e w2 ⟨rfl, hT⟩))
        have HRW : st1.row 6 ks1 = (k, st2) := by have e := HQ.out; rw [Prod.mk.injEq] at e; rw [← e.1, ← e.2]; exact HROW.out
        go_ret
        exact ⟨by rw [HRW]; rfl, by have h5 := (HN.out.newer hU0).fin hT; rw [HRW] at h5; exact h5⟩
      · have hs0 : ¬ (st1.err ≠ 0 ∨ s.data.toList.length ≤ st1.pos) := by rw [HL.out]; rintro (h | h); exact h he; exact hp h
        have gp : (st1.pos : Int) < (s.size : Int) := by omega
        obtain ⟨t, ok, ht, hn1, hn2, hcl⟩ := token_pre s rb st1.mode st1.case st1.pos (by omega) (by omega)
        have HTK := Lib.hid hcl
        clear he hcl hp
        by_cases h124 : t.sign = 124
        · have g124 : (t.sign != 124) = false := by simpa using h124
          obtain ⟨k2, s2, hb1, hb2⟩ := bs_on HE.out hs0 (by rw [ht.out]; exact h124)
          rw [ht.out] at hb1
          have HBF := Lib.hid hb1
          have HE2 := Lib.hid hb2
          have HNL2 := Lib.hid (bf_nodes (st := { st1 with pos := t.next }) HRN.out HNL.out hb1)
          clear h124 HE hs0 ht hb1 hb2
          go_wp2
          first | (refine wq_region_from_still ?_) | (refine wq_region_from (by kernel_rfl) (by kernel_rfl) ?_)
          repeat
            first
              | ((refine WQ_skip (by rfl) ?_); (try simp only [Act.put, zzT, zzO, zzS]))
              | (apply WQ_val (by rfl); (focus (intro w' hC; have s17 := hC.cell c17; have s1 := hC.cell c1; have s0 := hC.cell c00; go_simp; (first | done | exact rfl | (rw [if_pos (by omega)]; done) | (exact str_idx (by omega))))); (try simp only [Act.put, zzT, zzO, zzS]))
              | (apply WQ_call (by rfl); (focus (intro w' hC; go_simp; (first | done | exact rfl | exact ⟨rfl, rfl⟩))); (focus (intro w' hC; first | fail)); (try simp only [Act.put, zzT, zzO, zzS]))
          refine WQ_nil ?_
          intro wq hq
          have hqU := false_upd2 hq
          clear c17 c1 c00
          clear c0 f0; replace k0 := (hqU).heap k0 (fun h => h); replace hz := Nat.le_trans hz (hqU).size; replace hU0 := hU0.then hqU (fun _ _ h => h.elim); have c0 := cells_of k0; (try simp only [rdC, nodeC, tokC, setC, zzT, zzO, zzS] at c0); have f0 := frees_of k0
          go_wp2_with (first
            | (go_at_call 62; refine (HTK.out _ (c0 0) (c0 2) (c0 6)).mono ?_; rintro e w5 ⟨rfl, hqq⟩; clear c0 f0; replace k0 := (hqq).heap k0 (fun h => h); replace hz := Nat.le_trans hz (hqq).size; replace hU0 := hU0.then hqq (fun _ _ h => h.elim); have c0 := cells_of k0; (try simp only [rdC, nodeC, tokC, setC, zzT, zzO, zzS] at c0); have f0 := frees_of k0; clear hqq)
            | ((with_reducible refine stopAl 115 rfl ?_); unfold Stop; refine wpList_alloc_blk rfl 115 rfl (.agg #[.int .u8 0, .int .u8 0, .int .u8 0, .int .u64 0, .int .u64 0, .int .u64 0, .int .u64 0, .int .i64 0, .int .i64 0, .bool false, .int .i64 0, .slice none 0 0, .bool false, .int .i64 0, .int .u8 0, .int .u8 0]) (by kernel_rfl) #[.int .u8 0, .int .u8 0, .int .u8 0, .int .u64 0, .int .u64 0, .int .u64 0, .int .u64 0, .int .i64 0, .int .i64 0, .bool false, .int .i64 0, .slice none 0 0, .bool false, .int .i64 0, .int .u8 0, .int .u8 0] rfl ?_; intro bT wn hbn kn hUn hsn; clear c0 f0; have l0T := heap_lt k0; rw [hbn] at l0T; replace k0 := hUn.heap k0 (fun h => h); have gT : w.heap.size ≤ bT := Nat.le_trans hU0.size (Nat.le_of_eq hbn); have kT := kn; replace hU0 := hU0.then hUn (fun _ _ h => h.elim); replace hz : w.heap.size ≤ wn.heap.size := (by omega); clear kn hUn hsn hbn; have cT := cells_of kT; (try simp only [rdC, nodeC, tokC, setC, zzT, zzO, zzS] at cT); have fT := frees_of kT; have c0 := cells_of k0; (try simp only [rdC, nodeC, tokC, setC, zzT, zzO, zzS] at c0); have f0 := frees_of k0)
            | ((with_reducible refine stopSt 115 _ _ rfl ?_); unfold Stop; refine wpList_store_blk rfl 115 _ _ rfl _ _ rfl _ (by go_simp; first | done | exact rfl) _ _ _ kT (zzB rfl) (by kernel_rfl) rfl (by simp only [spl, rdC, nodeC, tokC, setC, Value.cells, zzT, zzO, zzS, Array.toList]; exact rfl) ?_; intro wn kn hUn hsn; clear cT fT c0 f0; replace k0 := hUn.heap k0 (by omega); replace kT := kn; replace hU0 := hU0.then hUn (fun i hi (e : i = _) => by first | exact e | exact absurd hi (by omega) | (subst e; first | assumption | (show _ ≤ _; omega)) | exact .inl e | exact .inr e | exact .inr (.inl e) | exact .inr (.inr e)); replace hz := Nat.le_trans hz (Nat.le_of_eq hsn.symm); clear kn hUn hsn; have cT := cells_of kT; (try simp only [rdC, nodeC, tokC, setC, zzT, zzO, zzS] at cT); have fT := frees_of kT; have c0 := cells_of k0; (try simp only [rdC, nodeC, tokC, setC, zzT, zzO, zzS] at c0); have f0 := frees_of k0)
            | ((with_reducible refine stopSt 3 _ _ rfl ?_); unfold Stop; refine wpList_store_blk rfl 3 _ _ rfl _ _ rfl _ (by go_simp; first | done | exact rfl) _ _ _ k0 (zzB rfl) (by kernel_rfl) rfl (by simp only [spl, rdC, Value.cells, zzT, zzO, zzS, Array.toList]; exact rfl) ?_; intro w kn hUn hsn; clear cT fT kT; have hN1 := (HN.out.newer hU0).put (st2 := { st1 with pos := t.next }) kn hUn rfl (HN.out.newer hU0).rd.done; clear kn hUn hsn; clear HN hU0 hz k0 c0 f0; have HN := Lib.hid hN1; clear hN1; have k0 := HN.out.rd.blk; have hU0 := Upd.refl (fun k => w.heap.size ≤ k) w; have hz := Nat.le_refl w.heap.size; have c0 := cells_of k0; (try simp only [rdC, nodeC, tokC, setC, zzT, zzO, zzS] at c0); have f0 := frees_of k0)
            | (go_at_call 61; refine (branch_any (HN.out.newer hU0).rd (HN.out.newer hU0).bse rec HREC.out HRN.out hs HNL.out within k2 s2 HBF.out).mono ?_; rintro e w ⟨rfl, hT⟩; obtain ⟨nv2, kvs2, Z2, hN1⟩ := (HN.out.newer hU0).to hT; clear hT HNL; have HNL := HNL2; clear HN hU0 hz k0 c0 f0; have HN := Lib.hid hN1; clear hN1; have k0 := HN.out.rd.blk; have hU0 := Upd.refl (fun k => w.heap.size ≤ k) w; have hz := Nat.le_refl w.heap.size; have c0 := cells_of k0; (try simp only [rdC, nodeC, tokC, setC, zzT, zzO, zzS] at c0); have f0 := frees_of k0)
            | (at_builtin
               have hUa := hU0.alloc (.cells #[.int .i64 (k2 : Nat)] 3)
               have hB1 := HN.out.newer hUa
               have hc1 := cell_one_at (w := w) (n := w.heap.size) (Value.int .i64 (k2 : Nat)) 3 rfl
               have hz1 : (w.alloc (.cells #[.int .i64 (k2 : Nat)] 3)).heap.size = w.heap.size + 1 := by simp
               have hW1 := HN.out.upd.size
               have HB1 := Lib.hid hB1
               clear hB1 c0 f0
               refine wpList_append_own2 _ rfl _ _ 51 rfl _ 3 i0 (.int .i64 0) 1 8 Try.underlying51 hi hz0 hz1' hz2 rfl (by decide) kv1 _ _ rfl HB1.out.own ⟨w.heap.size, 0, none⟩ 1 1 [.int .i64 (k2 : Nat)] rfl rfl hc1 (by simp [Value.oneCell']) (by unfold maxLen; omega) (by omega) (by omega) ?_
               intro v3 w3 ho3 hg3 hn3
               have hU3 := (Upd.refl (fun j => kv1.ownBlock = some j) _).grown hg3 (fun j _ e => e)
               have hN3 := HB1.out.grow (ks2 := ks1 ++ [k2]) (by simpa using ho3) hU3 (fun g hg => by
                 rcases hn3 with e | e
                 · left; rw [← e]; exact hg
                 · right; rw [e] at hg; injection hg with hg; omega)
               clear ho3 hg3 hn3 hU3 hc1 hUa hz1))
          go_roundg g
          case measure => omega
          case rel => exact ⟨_, _, _, _, _, hN3, HE2, HNL2.out, by simp; omega⟩
        · have g124 : (t.sign != 124) = true := by simpa using h124
          have HQ := Lib.hid (bs_end HE.out hs0 (by rw [ht.out]; exact h124))
          clear h124 HE hs0 ht
          go_wp2
          first | (refine wq_region_from_still ?_) | (refine wq_region_from (by kernel_rfl) (by kernel_rfl) ?_)
          repeat
            first
              | ((refine WQ_skip (by rfl) ?_); (try simp only [Act.put, zzT, zzO, zzS]))
              | (apply WQ_val (by rfl); (focus (intro w' hC; have s17 := hC.cell c17; have s1 := hC.cell c1; have s0 := hC.cell c00; go_simp; (first | done | exact rfl | (rw [if_pos (by omega)]; done) | (exact str_idx (by omega))))); (try simp only [Act.put, zzT, zzO, zzS]))
              | (apply WQ_call (by rfl); (focus (intro w' hC; go_simp; (first | done | exact rfl | exact ⟨rfl, rfl⟩))); (focus (intro w' hC; first | fail)); (try simp only [Act.put, zzT, zzO, zzS]))
          refine WQ_nil ?_
          intro wq hq
          have hqU := false_upd2 hq
          clear c17 c1 c00
          clear c0 f0; replace k0 := (hqU).heap k0 (fun h => h); replace hz := Nat.le_trans hz (hqU).size; replace hU0 := hU0.then hqU (fun _ _ h => h.elim); have c0 := cells_of k0; (try simp only [rdC, nodeC, tokC, setC, zzT, zzO, zzS] at c0); have f0 := frees_of k0
          go_wp2_with (first
            | (go_at_call 62; refine (HTK.out _ (c0 0) (c0 2) (c0 6)).mono ?_; rintro e w5 ⟨rfl, hqq⟩; clear c0 f0; replace k0 := (hqq).heap k0 (fun h => h); replace hz := Nat.le_trans hz (hqq).size; replace hU0 := hU0.then hqq (fun _ _ h => h.elim); have c0 := cells_of k0; (try simp only [rdC, nodeC, tokC, setC, zzT, zzO, zzS] at c0); have f0 := frees_of k0; clear hqq)
            | ((with_reducible refine stopAl 115 rfl ?_); unfold Stop; refine wpList_alloc_blk rfl 115 rfl (.agg #[.int .u8 0, .int .u8 0, .int .u8 0, .int .u64 0, .int .u64 0, .int .u64 0, .int .u64 0, .int .i64 0, .int .i64 0, .bool false, .int .i64 0, .slice none 0 0, .bool false, .int .i64 0, .int .u8 0, .int .u8 0]) (by kernel_rfl) #[.int .u8 0, .int .u8 0, .int .u8 0, .int .u64 0, .int .u64 0, .int .u64 0, .int .u64 0, .int .i64 0, .int .i64 0, .bool false, .int .i64 0, .slice none 0 0, .bool false, .int .i64 0, .int .u8 0, .int .u8 0] rfl ?_; intro bT wn hbn kn hUn hsn; clear c0 f0; have l0T := heap_lt k0; rw [hbn] at l0T; replace k0 := hUn.heap k0 (fun h => h); have gT : w.heap.size ≤ bT := Nat.le_trans hU0.size (Nat.le_of_eq hbn); have kT := kn; replace hU0 := hU0.then hUn (fun _ _ h => h.elim); replace hz : w.heap.size ≤ wn.heap.size := (by omega); clear kn hUn hsn hbn; have cT := cells_of kT; (try simp only [rdC, nodeC, tokC, setC, zzT, zzO, zzS] at cT); have fT := frees_of kT; have c0 := cells_of k0; (try simp only [rdC, nodeC, tokC, setC, zzT, zzO, zzS] at c0); have f0 := frees_of k0)
            | ((with_reducible refine stopSt 115 _ _ rfl ?_); unfold Stop; refine wpList_store_blk rfl 115 _ _ rfl _ _ rfl _ (by go_simp; first | done | exact rfl) _ _ _ kT (zzB rfl) (by kernel_rfl) rfl (by simp only [spl, rdC, nodeC, tokC, setC, Value.cells, zzT, zzO, zzS, Array.toList]; exact rfl) ?_; intro wn kn hUn hsn; clear cT fT c0 f0; replace k0 := hUn.heap k0 (by omega); replace kT := kn; replace hU0 := hU0.then hUn (fun i hi (e : i = _) => by first | exact e | exact absurd hi (by omega) | (subst e; first | assumption | (show _ ≤ _; omega)) | exact .inl e | exact .inr e | exact .inr (.inl e) | exact .inr (.inr e)); replace hz := Nat.le_trans hz (Nat.le_of_eq hsn.symm); clear kn hUn hsn; have cT := cells_of kT; (try simp only [rdC, nodeC, tokC, setC, zzT, zzO, zzS] at cT); have fT := frees_of kT; have c0 := cells_of k0; (try simp only [rdC, nodeC, tokC, setC, zzT, zzO, zzS] at c0); have f0 := frees_of k0)
            | (go_at_call 63; refine (row_any (HN.out.newer hU0).rd (HN.out.newer hU0).bse 6 _ kv1 (nats_of_owns (HN.out.newer hU0).own) (own_ints (HN.out.newer hU0).own) HNL.out HKL.out).mono ?_; rintro e w2 ⟨rfl, hT⟩))
          have HRW : st1.row 6 ks1 = (k, st2) := by have e := HQ.out; rw [Prod.mk.injEq] at e; rw [← e.1, ← e.2]; exact HROW.out
          go_ret
          exact ⟨by rw [HRW]; rfl, by have h5 := (HN.out.newer hU0).fin hT; rw [HRW] at h5; exact h5⟩
    · have ge : (st1.err == 0) = false := by simpa using he
      have HQ := Lib.hid (bs_stop HE.out (.inl he))
      clear he HE
      go_wp2
      first | (refine wq_region_from_still ?_) | (refine wq_region_from (by kernel_rfl) (by kernel_rfl) ?_)
      repeat
        first
          | ((refine WQ_skip (by rfl) ?_); (try simp only [Act.put, zzT, zzO, zzS]))
          | (apply WQ_val (by rfl); (focus (intro w' hC; have s17 := hC.cell c17; have s1 := hC.cell c1; have s0 := hC.cell c00; go_simp; (first | done | exact rfl | (rw [if_pos (by omega)]; done) | (exact str_idx (by omega))))); (try simp only [Act.put, zzT, zzO, zzS]))
          | (apply WQ_call (by rfl); (focus (intro w' hC; go_simp; (first | done | exact rfl | exact ⟨rfl, rfl⟩))); (focus (intro w' hC; first | fail)); (try simp only [Act.put, zzT, zzO, zzS]))
      refine WQ_nil ?_
      intro wq hq
      have hqU := false_upd2 hq
      clear c17 c1 c00
      clear c0 f0; replace k0 := (hqU).heap k0 (fun h => h); replace hz := Nat.le_trans hz (hqU).size; replace hU0 := hU0.then hqU (fun _ _ h => h.elim); have c0 := cells_of k0; (try simp only [rdC, nodeC, tokC, setC, zzT, zzO, zzS] at c0); have f0 := frees_of k0
      go_wp2_with (first
        | (go_at_call 63; refine (row_any (HN.out.newer hU0).rd (HN.out.newer hU0).bse 6 _ kv1 (nats_of_owns (HN.out.newer hU0).own) (own_ints (HN.out.newer hU0).own) HNL.out HKL.out).mono ?_; rintro e w2 ⟨rfl, hT⟩))
      have HRW : st1.row 6 ks1 = (k, st2) := by have e := HQ.out; rw [Prod.mk.injEq] at e; rw [← e.1, ← e.2]; exact HROW.out
      go_ret
      exact ⟨by rw [HRW]; rfl, by have h5 := (HN.out.newer hU0).fin hT; rw [HRW] at h5; exact h5⟩
end Go.Proofs.Ytigbfgmgdfnhcaa
