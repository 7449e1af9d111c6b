/- Lemmas that the law's proof stands on, part 15: PatS. No condition. -/
import Derived.Test.YtigbfgmgdfnhcaaBaseA0
import Derived.Test.YtigbfgmgdfnhcaaBaseA14
set_option linter.all false
set_option linter.unusedVariables false
set_option linter.unusedSimpArgs false
namespace Go.Proofs.Ytigbfgmgdfnhcaa
open Go.RowKit
theorem own_ints {w : World} {B n : Nat} {v : Value} {xs : List Value} (h : w.ownsRow B 3 1 v n xs) : ∀ g, v.ownBlock = some g → ∃ cs fr, w.heap[g]? = some (.cells cs 3 fr) := fun g hg => by
  obtain ⟨cs, hc⟩ := ownBlock_int h hg
  exact ⟨cs, _, hc⟩
set_option maxRecDepth 100000 in
set_option maxHeartbeats 16000000 in
theorem branch_any {B rb : Nat} {s : ByteArray} {st : RdD} {nv : Value} {kvs : List Value} {Z : Nat → Prop} {w : World} (h : RdAt w B rb s st nv kvs Z) (hB : B ≤ w.heap.size)
    (rec : RdD → Option (Nat × RdD)) (hrec : RecC s rec) (hrn : RecN rec) (hs : s.size ≤ 900) (hl : st.nodes.length ≤ 401) (within : Bool) (k : Nat) (st2 : RdD) (hq : branchF rec s.data.toList within st = some (k, st2)) :
    Calls Try.prog 61 #[.pointer (some ⟨rb, 0, none⟩), .bool within] w (BrPost w B rb s nv Z k st2) := by
  have HL : Hid (s.data.toList.length = s.size) := Lib.hid (by simp)
  have HR := Lib.hid h
  have HREC := Lib.hid hrec
  have HRN := Lib.hid hrn
  have k0 := h.blk
  have hU0 := Upd.refl (fun _ => False) w
  have hz := Nat.le_refl w.heap.size
  unfold branchF at hq
  obtain ⟨sE, bE, hbl, hrow⟩ : ∃ sE bE, branchL rec s.data.toList within (s.size + 1) st ⟨[], false⟩ = some (sE, bE) ∧ sE.row 5 bE.kids = (k, st2) := by
    rw [HL.out] at hq
    split at hq
    · cases hq
    · rename_i sE bE hbl
      exact ⟨sE, bE, hbl, Option.some.inj hq⟩
  have HBL := Lib.hid hbl
  have HROW := Lib.hid hrow
  clear h hrec hrn hq hbl hrow
  have c0 := cells_of k0; (try simp only [rdC, nodeC, tokC, setC, zzT, zzO, zzS] at c0); have f0 := frees_of k0
  go_enter Try.func61, Try.ntmps61
  go_wp2_with (first
    | ((with_reducible refine stopBx 128 _ rfl ?_); unfold Stop; refine wpList_box_blk rfl 128 _ rfl _ (by go_simp; first | done | exact rfl) #[.slice none 0 0, .bool false] rfl ?_; intro bB wn hbn kn hUn hsn; clear c0 f0; have l0B := heap_lt k0; rw [hbn] at l0B; replace k0 := hUn.heap k0 (fun h => h); have gB : w.heap.size ≤ bB := Nat.le_trans hU0.size (Nat.le_of_eq hbn); have kB := kn; replace hU0 := hU0.then hUn (fun _ _ h => h.elim); replace hz : w.heap.size ≤ wn.heap.size := (by omega); clear kn hUn hsn hbn; have cB := cells_of kB; (try simp only [rdC, nodeC, tokC, setC, zzT, zzO, zzS] at cB); have fB := frees_of kB; have c0 := cells_of k0; (try simp only [rdC, nodeC, tokC, setC, zzT, zzO, zzS] at c0); have f0 := frees_of k0))
  have hN1 : Now w B rb bB s nv (.slice none 0 0) Z st ⟨[], false⟩ nv kvs (.slice none 0 0) Z wn :=
    ⟨HR.out.upd hU0 (fun h => h) (fun _ _ h => h) (fun _ _ h => h), ⟨Nat.le_trans hB gB, kB, ⟨rfl, .inl ⟨rfl, rfl⟩⟩⟩, fun g hg => by simp [Value.ownBlock] at hg, hU0.mono (fun _ _ h => h.elim), fun _ h => .inl h, fun _ h => .inl h, fun _ h => h, fun _ h => .inl h, hB⟩
  have HN0 := Lib.hid hN1
  have HBB := Lib.hid gB
  clear hN1 hU0 hz k0 c0 f0 kB cB fB HR
  go_loopg [6] (s.size + 1) (fun gk _ wr => ∃ (st1 : RdD) (b1 : BrD) (nv1 : Value) (kvs1 : List Value) (kv1 : Value) (Z1 : Nat → Prop), Now w B rb bB s nv (.slice none 0 0) Z st1 b1 nv1 kvs1 kv1 Z1 wr ∧ Hid (branchL rec s.data.toList within gk st1 b1 = some (sE, bE)) ∧ Fine st1 b1 ∧ b1.kids.length + gk ≤ s.size + 1)
  case atStart => exact ⟨st, ⟨[], false⟩, nv, kvs, .slice none 0 0, Z, HN0.out, HBL, ⟨hl, fun e => by cases e⟩, by simp⟩
  case round =>
    clear HN0 HBL
    obtain ⟨st1, b1, nv1, kvs1, kv1, Z1, hN1, HE, hF, hkg⟩ := hrel
    have HN := Lib.hid hN1
    have HF := Lib.hid hF
    have HNL := Lib.hid hF.len
    have HMY := Lib.hid hF.may
    have HKL : Hid (b1.kids.length ≤ 1000) := Lib.hid (by omega)
    obtain ⟨w, rfl⟩ : ∃ w, w = wr := ⟨_, rfl⟩
    obtain ⟨g, rfl⟩ : ∃ g, gk = g + 1 := by
      cases gk with
      | zero => have := HE.out; unfold branchL at this; cases this
      | succ g => exact ⟨g, rfl⟩
    have k0 := hN1.rd.blk
    have kB := hN1.br.blk
    have hU0 := Upd.refl (fun k => w.heap.size ≤ k) w
    have hz := Nat.le_refl w.heap.size
    have HDL := Lib.hid hN1.rd.done
    clear hN1 hF hl
    have c17 := cell_of k0 17 (v := .int .i64 st1.err) rfl
    have c1 := cell_of k0 1 (v := .int .i64 st1.pos) rfl
    have c00 := cell_of k0 0 (v := .string s) rfl
    have c0 := cells_of k0; (try simp only [rdC, nodeC, tokC, setC, zzT, zzO, zzS] at c0); have f0 := frees_of k0; have cB := cells_of kB; (try simp only [rdC, nodeC, tokC, setC, zzT, zzO, zzS] at cB); have fB := frees_of kB
    by_cases he : st1.err = 0
    · have ge : (st1.err == 0) = true := by simpa using he
      by_cases hp : s.size ≤ st1.pos
      · have HQ := Lib.hid (bl_stop HE.out (.inr (by rw [HL.out]; exact hp)))
        have gp : ¬ (st1.pos : Int) < (s.size : Int) := by omega
        clear he HE
        go_wp2
        first | (refine wq_region_from_still ?_) | (refine wq_region_from (by kernel_rfl) (by kernel_rfl) ?_)
        repeat
          first
            | ((refine WQ_skip (by rfl) ?_); (try simp only [Act.put, zzT, zzO, zzS]))
            | (apply WQ_val (by rfl); (focus (intro w' hC; have s17 := hC.cell c17; have s1 := hC.cell c1; have s0 := hC.cell c00; go_simp; (first | done | exact rfl | (rw [if_pos (by omega)]; done) | (exact str_idx (by omega))))); (try simp only [Act.put, zzT, zzO, zzS]))
            | (apply WQ_call (by rfl); (focus (intro w' hC; go_simp; (first | done | exact rfl | exact ⟨rfl, rfl⟩))); (focus (intro w' hC; first | fail)); (try simp only [Act.put, zzT, zzO, zzS]))
        refine WQ_nil ?_
        intro wq hq
        have hqU := false_upd2 hq
        clear c17 c1 c00
        clear c0 f0 cB fB; replace k0 := (hqU).heap k0 (fun h => h); replace kB := (hqU).heap kB (fun h => h); replace hz := Nat.le_trans hz (hqU).size; replace hU0 := hU0.then hqU (fun _ _ h => h.elim); have c0 := cells_of k0; (try simp only [rdC, nodeC, tokC, setC, zzT, zzO, zzS] at c0); have f0 := frees_of k0; have cB := cells_of kB; (try simp only [rdC, nodeC, tokC, setC, zzT, zzO, zzS] at cB); have fB := frees_of kB
        go_wp2_with (first
          | (go_at_call 63; refine (row_any (HN.out.newer hU0).rd (HN.out.newer hU0).bse 5 _ kv1 (nats_of_owns (HN.out.newer hU0).br.own) (own_ints (HN.out.newer hU0).br.own) HNL.out HKL.out).mono ?_; rintro e w2 ⟨rfl, hT⟩))
        have HRW : (st1).row 5 b1.kids = (k, st2) := by have e := HQ.out; rw [Prod.mk.injEq] at e; rw [← e.1, ← e.2]; exact HROW.out
        go_ret
        exact ⟨by rw [HRW]; rfl, by have h5 := branch_fin (HN.out.newer hU0) HBB.out hT; rw [HRW] at h5; exact h5⟩
      · have hs0 : ¬ (st1.err ≠ 0 ∨ s.data.toList.length ≤ st1.pos) := by rw [HL.out]; rintro (h | h); exact h he; exact hp h
        have gp : (st1.pos : Int) < (s.size : Int) := by omega
        obtain ⟨t, ok, ht, hn1, hn2, hcl⟩ := token_pre s rb st1.mode st1.case st1.pos (by omega) (by omega)
        have HTK := Lib.hid hcl
        have HS0 := Lib.hid hs0
        have HTKS : Hid (t.node.kids = []) := Lib.hid (by have := token_kids s.data.toList st1.mode st1.case st1.pos; rw [ht.out] at this; exact this)
        have HTB : Hid (t.node.op = 9 → 1 ≤ t.node.n ∧ t.node.n ≤ 9) := Lib.hid (by have := token_back s.data.toList st1.mode st1.case st1.pos; rw [ht.out] at this; exact this)
        have hplt : st1.pos < s.size := by omega
        have HNW : ∀ e i, Hid ((st1.wrong e i).nodes.length ≤ 401) := fun e i => Lib.hid (by rw [wrong_nodes]; exact HNL.out)
        have HNW := HNW
        clear he hcl hs0 hp
        go_wp2
        first | (refine wq_region_from_still ?_) | (refine wq_region_from (by kernel_rfl) (by kernel_rfl) ?_)
        repeat
          first
            | ((refine WQ_skip (by rfl) ?_); (try simp only [Act.put, zzT, zzO, zzS]))
            | (apply WQ_val (by rfl); (focus (intro w' hC; have s17 := hC.cell c17; have s1 := hC.cell c1; have s0 := hC.cell c00; go_simp; (first | done | exact rfl | (rw [if_pos (by omega)]; done) | (exact str_idx (by omega))))); (try simp only [Act.put, zzT, zzO, zzS]))
            | (apply WQ_call (by rfl); (focus (intro w' hC; go_simp; (first | done | exact rfl | exact ⟨rfl, rfl⟩))); (focus (intro w' hC; first | fail)); (try simp only [Act.put, zzT, zzO, zzS]))
        refine WQ_nil ?_
        intro wq hq
        have hqU := false_upd2 hq
        clear c17 c1 c00
        clear c0 f0 cB fB; replace k0 := (hqU).heap k0 (fun h => h); replace kB := (hqU).heap kB (fun h => h); replace hz := Nat.le_trans hz (hqU).size; replace hU0 := hU0.then hqU (fun _ _ h => h.elim); have c0 := cells_of k0; (try simp only [rdC, nodeC, tokC, setC, zzT, zzO, zzS] at c0); have f0 := frees_of k0; have cB := cells_of kB; (try simp only [rdC, nodeC, tokC, setC, zzT, zzO, zzS] at cB); have fB := frees_of kB
        go_upto_region 5 with (first
          | (go_at_call 62; refine (HTK.out _ (c0 0) (c0 2) (c0 6)).mono ?_; rintro e w5 ⟨rfl, hqq⟩; clear c0 f0 cB fB; replace k0 := (hqq).heap k0 (fun h => h); replace kB := (hqq).heap kB (fun h => h); replace hz := Nat.le_trans hz (hqq).size; replace hU0 := hU0.then hqq (fun _ _ h => h.elim); have c0 := cells_of k0; (try simp only [rdC, nodeC, tokC, setC, zzT, zzO, zzS] at c0); have f0 := frees_of k0; have cB := cells_of kB; (try simp only [rdC, nodeC, tokC, setC, zzT, zzO, zzS] at cB); have fB := frees_of kB; clear hqq)
          | ((with_reducible refine stopAl 115 rfl ?_); unfold Stop; refine wpList_alloc_blk rfl 115 rfl (.agg #[.int .u8 0, .int .u8 0, .int .u8 0, .int .u64 0, .int .u64 0, .int .u64 0, .int .u64 0, .int .i64 0, .int .i64 0, .bool false, .int .i64 0, .slice none 0 0, .bool false, .int .i64 0, .int .u8 0, .int .u8 0]) (by kernel_rfl) #[.int .u8 0, .int .u8 0, .int .u8 0, .int .u64 0, .int .u64 0, .int .u64 0, .int .u64 0, .int .i64 0, .int .i64 0, .bool false, .int .i64 0, .slice none 0 0, .bool false, .int .i64 0, .int .u8 0, .int .u8 0] rfl ?_; intro bT wn hbn kn hUn hsn; clear c0 f0 cB fB; have l0T := heap_lt k0; rw [hbn] at l0T; replace k0 := hUn.heap k0 (fun h => h); have lBT := heap_lt kB; rw [hbn] at lBT; replace kB := hUn.heap kB (fun h => h); have gT : w.heap.size ≤ bT := Nat.le_trans hU0.size (Nat.le_of_eq hbn); have kT := kn; replace hU0 := hU0.then hUn (fun _ _ h => h.elim); replace hz : w.heap.size ≤ wn.heap.size := (by omega); clear kn hUn hsn hbn; have cT := cells_of kT; (try simp only [rdC, nodeC, tokC, setC, zzT, zzO, zzS] at cT); have fT := frees_of kT; have c0 := cells_of k0; (try simp only [rdC, nodeC, tokC, setC, zzT, zzO, zzS] at c0); have f0 := frees_of k0; have cB := cells_of kB; (try simp only [rdC, nodeC, tokC, setC, zzT, zzO, zzS] at cB); have fB := frees_of kB)
          | ((with_reducible refine stopSt 115 _ _ rfl ?_); unfold Stop; refine wpList_store_blk rfl 115 _ _ rfl _ _ rfl _ (by go_simp; first | done | exact rfl) _ _ _ kT (zzB rfl) (by kernel_rfl) rfl (by simp only [spl, rdC, nodeC, tokC, setC, Value.cells, zzT, zzO, zzS, Array.toList]; exact rfl) ?_; intro wn kn hUn hsn; clear cT fT c0 f0 cB fB; replace k0 := hUn.heap k0 (by omega); replace kB := hUn.heap kB (by omega); replace kT := kn; replace hU0 := hU0.then hUn (fun i hi (e : i = _) => by first | exact e | exact absurd hi (by omega) | (subst e; first | assumption | (show _ ≤ _; omega)) | exact .inl e | exact .inr e | exact .inr (.inl e) | exact .inr (.inr e)); replace hz := Nat.le_trans hz (Nat.le_of_eq hsn.symm); clear kn hUn hsn; have cT := cells_of kT; (try simp only [rdC, nodeC, tokC, setC, zzT, zzO, zzS] at cT); have fT := frees_of kT; have c0 := cells_of k0; (try simp only [rdC, nodeC, tokC, setC, zzT, zzO, zzS] at c0); have f0 := frees_of k0; have cB := cells_of kB; (try simp only [rdC, nodeC, tokC, setC, zzT, zzO, zzS] at cB); have fB := frees_of kB))
        cases ok
        · have HQ := Lib.hid (bl_bad HE.out HS0.out ht.out rfl)
          have HNW := HNW 30 st1.pos
          clear HE ht
          go_wp2_with (first
            | (go_at_call 74; refine (wrong_any (HN.out.newer hU0).rd 30 st1.pos).mono ?_; rintro e w ⟨rfl, hR1, hu1⟩; have hN1 := (HN.out.newer hU0).set hR1 hu1; clear hR1 hu1; clear HN hU0 hz k0 c0 f0 kB cB fB; have HN := Lib.hid hN1; clear hN1; have k0 := HN.out.rd.blk; have kB := HN.out.br.blk; have hU0 := Upd.refl (fun k => w.heap.size ≤ k) w; have hz := Nat.le_refl w.heap.size; have c0 := cells_of k0; (try simp only [rdC, nodeC, tokC, setC, zzT, zzO, zzS] at c0); have f0 := frees_of k0; have cB := cells_of kB; (try simp only [rdC, nodeC, tokC, setC, zzT, zzO, zzS] at cB); have fB := frees_of kB)
            | (go_at_call 63; refine (row_any (HN.out.newer hU0).rd (HN.out.newer hU0).bse 5 _ kv1 (nats_of_owns (HN.out.newer hU0).br.own) (own_ints (HN.out.newer hU0).br.own) HNW.out HKL.out).mono ?_; rintro e w2 ⟨rfl, hT⟩))
          have HRW : (st1.wrong 30 st1.pos).row 5 b1.kids = (k, st2) := by have e := HQ.out; rw [Prod.mk.injEq] at e; rw [← e.1, ← e.2]; exact HROW.out
          go_ret
          exact ⟨by rw [HRW]; rfl, by have h5 := branch_fin (HN.out.newer hU0) HBB.out hT; rw [HRW] at h5; exact h5⟩
        · cases hnon : t.non
          · have HR1 := Lib.hid (bl_rest HE.out HS0.out ht.out hnon)
            simp only [hnon] at cT
            clear HE ht hnon
            by_cases h124 : t.sign = 124
            · have HQ : Hid ((sE, bE) = (st1, b1)) := Lib.hid (by have := HR1.out; rw [if_pos (.inl h124)] at this; exact (Option.some.inj this).symm)
              have g124 : (t.sign == 124) = true := by simpa using h124
              clear h124 HR1
              go_wp2_with (first
                | (go_at_call 63; refine (row_any (HN.out.newer hU0).rd (HN.out.newer hU0).bse 5 _ kv1 (nats_of_owns (HN.out.newer hU0).br.own) (own_ints (HN.out.newer hU0).br.own) HNL.out HKL.out).mono ?_; rintro e w2 ⟨rfl, hT⟩))
              have HRW : (st1).row 5 b1.kids = (k, st2) := by have e := HQ.out; rw [Prod.mk.injEq] at e; rw [← e.1, ← e.2]; exact HROW.out
              go_ret
              exact ⟨by rw [HRW]; rfl, by have h5 := branch_fin (HN.out.newer hU0) HBB.out hT; rw [HRW] at h5; exact h5⟩
            · have g124 : (t.sign == 124) = false := by simpa using h124
              by_cases h41 : t.sign = 41
              · have g41 : (t.sign == 41) = true := by simpa using h41
                cases within
                · have HQ : Hid ((sE, bE) = (st1.wrong 31 st1.pos, b1)) := Lib.hid (by have := HR1.out; rw [if_neg (by rintro (h | h); exact h124 h; exact absurd h.2 (by decide)), if_pos h41] at this; exact (Option.some.inj this).symm)
                  have HNW := HNW 31 st1.pos
                  clear h124 HR1 h41
                  go_wp2_with (first
                    | (go_at_call 74; refine (wrong_any (HN.out.newer hU0).rd 31 st1.pos).mono ?_; rintro e w ⟨rfl, hR1, hu1⟩; have hN1 := (HN.out.newer hU0).set hR1 hu1; clear hR1 hu1; clear HN hU0 hz k0 c0 f0 kB cB fB; have HN := Lib.hid hN1; clear hN1; have k0 := HN.out.rd.blk; have kB := HN.out.br.blk; have hU0 := Upd.refl (fun k => w.heap.size ≤ k) w; have hz := Nat.le_refl w.heap.size; have c0 := cells_of k0; (try simp only [rdC, nodeC, tokC, setC, zzT, zzO, zzS] at c0); have f0 := frees_of k0; have cB := cells_of kB; (try simp only [rdC, nodeC, tokC, setC, zzT, zzO, zzS] at cB); have fB := frees_of kB)
                    | (go_at_call 63; refine (row_any (HN.out.newer hU0).rd (HN.out.newer hU0).bse 5 _ kv1 (nats_of_owns (HN.out.newer hU0).br.own) (own_ints (HN.out.newer hU0).br.own) HNW.out HKL.out).mono ?_; rintro e w2 ⟨rfl, hT⟩))
                  have HRW : (st1.wrong 31 st1.pos).row 5 b1.kids = (k, st2) := by have e := HQ.out; rw [Prod.mk.injEq] at e; rw [← e.1, ← e.2]; exact HROW.out
                  go_ret
                  exact ⟨by rw [HRW]; rfl, by have h5 := branch_fin (HN.out.newer hU0) HBB.out hT; rw [HRW] at h5; exact h5⟩
                · have HQ : Hid ((sE, bE) = (st1, b1)) := Lib.hid (by have := HR1.out; rw [if_pos (.inr ⟨h41, rfl⟩)] at this; exact (Option.some.inj this).symm)
                  clear h124 HR1 h41
                  go_wp2_with (first
                    | (go_at_call 63; refine (row_any (HN.out.newer hU0).rd (HN.out.newer hU0).bse 5 _ kv1 (nats_of_owns (HN.out.newer hU0).br.own) (own_ints (HN.out.newer hU0).br.own) HNL.out HKL.out).mono ?_; rintro e w2 ⟨rfl, hT⟩))
                  have HRW : (st1).row 5 b1.kids = (k, st2) := by have e := HQ.out; rw [Prod.mk.injEq] at e; rw [← e.1, ← e.2]; exact HROW.out
                  go_ret
                  exact ⟨by rw [HRW]; rfl, by have h5 := branch_fin (HN.out.newer hU0) HBB.out hT; rw [HRW] at h5; exact h5⟩
              · have g41 : (t.sign == 41) = false := by simpa using h41
                have HR2 := Lib.hid HR1.out
                rw [if_neg (by rintro (h | h); exact h124 h; exact h41 h.1), if_neg h41] at HR2
                clear HR1 h124 h41
                by_cases h0 : t.sign = 0
                · have HR3 := Lib.hid HR2.out
                  rw [if_neg (by rw [h0]; exact fun h => h rfl)] at HR3
                  have g0 : (t.sign != 0) = false := by simpa using h0
                  clear h0 HR2
                  by_cases h9 : t.node.op = 9
                  · obtain ⟨hb1, hb2⟩ := HTB.out h9
                    obtain ⟨m, hm⟩ : ∃ m : Nat, t.node.n = (m : Int) := ⟨t.node.n.toNat, by omega⟩
                    have hmt : t.node.n.toNat = m := by omega
                    have hm9 : m ≤ 9 := by omega
                    have hm10 : (m : Int) < 10 := by omega
                    have hm0 : (0 : Int) ≤ (m : Int) := by omega
                    have hm11 : m < 10 := by omega
                    have g9 : (t.node.op == 9) = true := by simpa using h9
                    have g14 : (t.node.op != 14) = true := by rw [h9]; decide
                    have g15 : (t.node.op != 15) = true := by rw [h9]; decide
                    have dcell := fun (d : Bool) (hd : st1.done.getD m true = d) => cell_of (v := .bool d) k0 (7 + m) (by rw [← hd]; exact done_cell s st1 nv1 m (by omega) HDL.out)
                    have HDC := Lib.hid dcell
                    have ncell : wn.cell? ⟨bT, 10, none⟩ = some (.int .i64 (m : Nat)) := by rw [← hm]; exact cell_of kT 10 rfl
                    have HR4 := Lib.hid HR3.out
                    rw [hmt] at HR4
                    clear dcell HR3
                    cases hd : st1.done.getD m true
                    · have HQ : Hid ((sE, bE) = (st1.wrong 31 st1.pos, b1)) := Lib.hid (by have := HR4.out; rw [if_pos ⟨h9, hd⟩] at this; exact (Option.some.inj this).symm)
                      have dc := HDC.out false hd
                      have HNW := HNW 31 st1.pos
                      clear hd HR4 h9 hm hmt hb1 hb2
                      have cT1 := cell_of kT 1 (v := .int .u8 t.node.op) rfl
                      go_wp2
                      first | (refine wq_region_from_still ?_) | (refine wq_region_from (by kernel_rfl) (by kernel_rfl) ?_)
                      repeat
                        first
                          | ((refine WQ_skip (by rfl) ?_); (try simp only [Act.put, zzT, zzO, zzS]))
                          | (apply WQ_val (by rfl); (focus (intro w' hC; have sT1 := hC.cell cT1; have sT2 := hC.cell ncell; have sT3 := hC.cell dc; go_simp; (first | done | exact rfl | (rw [if_pos (by omega)]; done) | (exact str_idx (by omega))))); (try simp only [Act.put, zzT, zzO, zzS]))
                          | (apply WQ_call (by rfl); (focus (intro w' hC; go_simp; (first | done | exact rfl | exact ⟨rfl, rfl⟩))); (focus (intro w' hC; first | fail)); (try simp only [Act.put, zzT, zzO, zzS]))
                      refine WQ_nil ?_
                      intro wq hq
                      have hqU := false_upd2 hq
                      clear cT1 dc ncell
                      clear cT fT c0 f0 cB fB; replace kT := (hqU).heap kT (fun h => h); replace k0 := (hqU).heap k0 (fun h => h); replace kB := (hqU).heap kB (fun h => h); replace hz := Nat.le_trans hz (hqU).size; replace hU0 := hU0.then hqU (fun _ _ h => h.elim); have cT := cells_of kT; (try simp only [rdC, nodeC, tokC, setC, zzT, zzO, zzS] at cT); have fT := frees_of kT; have c0 := cells_of k0; (try simp only [rdC, nodeC, tokC, setC, zzT, zzO, zzS] at c0); have f0 := frees_of k0; have cB := cells_of kB; (try simp only [rdC, nodeC, tokC, setC, zzT, zzO, zzS] at cB); have fB := frees_of kB
                      go_wp2_with (first
                        | (go_at_call 74; refine (wrong_any (HN.out.newer hU0).rd 31 st1.pos).mono ?_; rintro e w ⟨rfl, hR1, hu1⟩; have hN1 := (HN.out.newer hU0).set hR1 hu1; clear hR1 hu1; clear HN hU0 hz k0 c0 f0 kB cB fB; have HN := Lib.hid hN1; clear hN1; have k0 := HN.out.rd.blk; have kB := HN.out.br.blk; have hU0 := Upd.refl (fun k => w.heap.size ≤ k) w; have hz := Nat.le_refl w.heap.size; have c0 := cells_of k0; (try simp only [rdC, nodeC, tokC, setC, zzT, zzO, zzS] at c0); have f0 := frees_of k0; have cB := cells_of kB; (try simp only [rdC, nodeC, tokC, setC, zzT, zzO, zzS] at cB); have fB := frees_of kB)
                        | (go_at_call 63; refine (row_any (HN.out.newer hU0).rd (HN.out.newer hU0).bse 5 _ kv1 (nats_of_owns (HN.out.newer hU0).br.own) (own_ints (HN.out.newer hU0).br.own) HNW.out HKL.out).mono ?_; rintro e w2 ⟨rfl, hT⟩))
                      have HRW : (st1.wrong 31 st1.pos).row 5 b1.kids = (k, st2) := by have e := HQ.out; rw [Prod.mk.injEq] at e; rw [← e.1, ← e.2]; exact HROW.out
                      go_ret
                      exact ⟨by rw [HRW]; rfl, by have h5 := branch_fin (HN.out.newer hU0) HBB.out hT; rw [HRW] at h5; exact h5⟩
                    · have HE2 : Hid _ := Lib.hid (by have := HR4.out; rw [if_neg (fun h => by rw [hd] at h; exact absurd h.2 (by decide))] at this; exact this)
                      have dc := HDC.out true hd
                      rw [g14, g15] at HE2
                      clear hd HR4 h9 hm hmt hb1 hb2
                      have cT1 := cell_of kT 1 (v := .int .u8 t.node.op) rfl
                      go_wp2
                      first | (refine wq_region_from_still ?_) | (refine wq_region_from (by kernel_rfl) (by kernel_rfl) ?_)
                      repeat
                        first
                          | ((refine WQ_skip (by rfl) ?_); (try simp only [Act.put, zzT, zzO, zzS]))
                          | (apply WQ_val (by rfl); (focus (intro w' hC; have sT1 := hC.cell cT1; have sT2 := hC.cell ncell; have sT3 := hC.cell dc; go_simp; (first | done | exact rfl | (rw [if_pos (by omega)]; done) | (exact str_idx (by omega))))); (try simp only [Act.put, zzT, zzO, zzS]))
                          | (apply WQ_call (by rfl); (focus (intro w' hC; go_simp; (first | done | exact rfl | exact ⟨rfl, rfl⟩))); (focus (intro w' hC; first | fail)); (try simp only [Act.put, zzT, zzO, zzS]))
                      refine WQ_nil ?_
                      intro wq hq
                      have hqU := false_upd2 hq
                      clear cT1
                      clear cT fT c0 f0 cB fB; replace kT := (hqU).heap kT (fun h => h); replace k0 := (hqU).heap k0 (fun h => h); replace kB := (hqU).heap kB (fun h => h); replace hz := Nat.le_trans hz (hqU).size; replace hU0 := hU0.then hqU (fun _ _ h => h.elim); have cT := cells_of kT; (try simp only [rdC, nodeC, tokC, setC, zzT, zzO, zzS] at cT); have fT := frees_of kT; have c0 := cells_of k0; (try simp only [rdC, nodeC, tokC, setC, zzT, zzO, zzS] at c0); have f0 := frees_of k0; have cB := cells_of kB; (try simp only [rdC, nodeC, tokC, setC, zzT, zzO, zzS] at cB); have fB := frees_of kB
                      go_wp2_with (first
                        | ((with_reducible refine stopSt 3 _ _ rfl ?_); unfold Stop; refine wpList_store_blk rfl 3 _ _ rfl _ _ rfl _ (by go_simp; first | done | exact rfl) _ _ _ k0 (zzB rfl) (by kernel_rfl) rfl (by simp only [spl, rdC, nodeC, tokC, setC, Value.cells, zzT, zzO, zzS, Array.toList]; exact rfl) ?_; intro w kn hUn hsn; clear cT fT; replace kT := (hUn).heap kT (fun e => tok_rd (HN.out.newer hU0).rd kT (by decide) (by decide) (.inl e)); have hN1 := (HN.out.newer hU0).put (st2 := { st1 with pos := t.next }) kn hUn rfl (HN.out.newer hU0).rd.done; clear kn hUn hsn; clear HN hU0 hz k0 c0 f0 kB cB fB; have HN := Lib.hid hN1; clear hN1; have k0 := HN.out.rd.blk; have kB := HN.out.br.blk; have hU0 := Upd.refl (fun k => w.heap.size ≤ k) w; have hz := Nat.le_refl w.heap.size; have c0 := cells_of k0; (try simp only [rdC, nodeC, tokC, setC, zzT, zzO, zzS] at c0); have f0 := frees_of k0; have cB := cells_of kB; (try simp only [rdC, nodeC, tokC, setC, zzT, zzO, zzS] at cB); have fB := frees_of kB; have cT := cells_of kT; (try simp only [rdC, nodeC, tokC, setC, zzT, zzO, zzS] at cT); have fT := frees_of kT))
                      have HW := HN.out.newer hU0.drew
                      obtain ⟨wd, hwd⟩ : ∃ wd, w.drew = wd := ⟨_, rfl⟩
                      have kTd : wd.heap[bT]? = some (.cells (tokC t) 115 (0, 0)) := by rw [← hwd]; exact kT
                      rw [hwd] at HW
                      have HWd := Lib.hid HW
                      have HNT : Hid (NatsAt wd (.slice none 0 0) t.node.kids) := Lib.hid (by rw [HTKS.out]; exact NatsAt.nil wd none 0)
                      clear HW hU0 hz k0 c0 f0 kB cB fB kT cT fT hqU
                      refine wp_region_seq (fun v => v.heap[bT]? = some (.cells (tokC t) 115 (0, 0))) (fun i => i != 16) [(0, true), (1, true), (2, true), (3, true), (4, true), (6, true), (7, true), (8, true), (9, true), (5, false), (10, true), (11, true), (12, true), (13, true), (14, true), (15, true), (16, false)] (by exact rfl) (by kernel_rfl) (by intro c a d v w h; cases d <;> exact h) ?_
                      rw [hwd]; have hS : wd.heap[bT]? = some (.cells (tokC t) 115 (0, 0)) := kTd
                      iterate 4 (((apply seq_val2 rfl (by rfl); (focus (intro w' hS'; have s1 := cell_of hS' 1 (v := .int .u8 t.node.op) rfl; go_simp; (first | done | exact rfl | (rw [if_pos (by omega)]; done)))); (focus exact hS))); (try simp only [Act.put, zzT, zzO, zzS]))
                      (apply seq_val2 rfl (by rfl); (focus (intro w' hS'; have s1 := cell_of hS' 1 (v := .int .u8 t.node.op) rfl; exact exec_load_part 113 _ rfl bT 1 rfl _ (nodeC t.node (.slice none 0 0)).toArray _ _ _ hS' Try.underlying113 rfl rfl (by kernel_rfl))); (focus exact hS))
                      (try simp only [Act.put, zzT, zzO, zzS])
                      iterate 4 (((apply seq_val2 rfl (by rfl); (focus (intro w' hS'; have s1 := cell_of hS' 1 (v := .int .u8 t.node.op) rfl; go_simp; (first | done | exact rfl | (rw [if_pos (by omega)]; done)))); (focus exact hS))); (try simp only [Act.put, zzT, zzO, zzS]))
                      apply seq_call2 (fun v w' => v = Value.int .i64 ((({ st1 with pos := t.next } : RdD).node t.node).1 : Nat) ∧ RdTo wd B rb s nv1 Z1 (fun _ => False) (({ st1 with pos := t.next } : RdD).node t.node).2 w') rfl (by rfl)
                      focus (go_simp; (first | done | exact rfl | exact ⟨rfl, rfl⟩))
                      focus (refine (node_any HWd.out.rd HWd.out.bse t.node (.slice none 0 0) HNT.out (fun g hg => by simp [Value.ownBlock] at hg) HNL.out).mono ?_; rintro e w' ⟨rfl, hT⟩; exact ⟨_, rfl, rfl, hT.mono (fun k hk => by simp [Value.ownBlock] at hk)⟩)
                      rintro v w5 ⟨rfl, hT⟩; have kT5 := (RdTo.upd hT).heap kTd (tok_rd HWd.out.rd kTd); obtain ⟨nv2, kvs2, Z2, hN1⟩ := HWd.out.to hT (fun k hk => hk.elim); clear hS hT; have hS : w5.heap[bT]? = some (.cells (tokC t) 115 (0, 0)) := kT5; refine ⟨fun _ => hS, ?_⟩
                      (try simp only [Act.put, zzT, zzO, zzS])
                      iterate 6 ((first | (refine seq_skip2 rfl (by rfl) hS ?_) | (apply seq_val2 rfl (by rfl); (focus (intro w' hS'; have s1 := cell_of hS' 1 (v := .int .u8 t.node.op) rfl; go_simp; (first | done | exact rfl | (rw [if_pos (by omega)]; done)))); (focus exact hS))); (try simp only [Act.put, zzT, zzO, zzS]))
                      apply seq_call2 (fun v w' => v = Value.tuple #[] ∧ ∃ kv', BrAt w' B bB (b1.piece (({ st1 with pos := t.next } : RdD).node t.node).1 true) kv' ∧ Upd (fun j => j = bB ∨ kv1.ownBlock = some j) w5 w' ∧ (∀ g, kv'.ownBlock = some g → kv1.ownBlock = some g ∨ w5.heap.size ≤ g)) rfl (by rfl)
                      focus (go_simp; (first | done | exact rfl | exact ⟨rfl, rfl⟩))
                      focus (refine (piece_any hN1.br hN1.bse _ _ _ HKL.out).mono ?_; rintro e w' ⟨rfl, hh⟩; exact ⟨_, rfl, rfl, hh⟩)
                      rintro v w6 ⟨rfl, kv2, hb1, hu1, hn1⟩; have hN2 := hN1.piece hb1 hu1 hn1; clear hN1 hb1 hu1 hn1 hS; refine ⟨(fun e => by cases e), ?_⟩
                      (try simp only [Act.put, zzT, zzO, zzS])
                      refine seq_nil ?_
                      go_wp2
                      go_roundg g
                      case measure => omega
                      case rel => exact ⟨_, _, _, _, _, _, hN2, HE2, (Stp.laid (st := { st1 with pos := t.next }) (b := b1) HNL.out).fine, by simp [BrD.piece]; omega⟩
                  · have g9 : (t.node.op == 9) = false := by simpa using h9
                    have HE2 : Hid _ := Lib.hid (by have := HR3.out; rw [if_neg (fun h => h9 h.1)] at this; exact this)
                    clear HR3 h9
                    cases g14 : (t.node.op != 14)
                    · rw [g14] at HE2
                      have cT1 := cell_of kT 1 (v := .int .u8 t.node.op) rfl
                      go_wp2
                      first | (refine wq_region_from_still ?_) | (refine wq_region_from (by kernel_rfl) (by kernel_rfl) ?_)
                      repeat
                        first
                          | ((refine WQ_skip (by rfl) ?_); (try simp only [Act.put, zzT, zzO, zzS]))
                          | (apply WQ_val (by rfl); (focus (intro w' hC; have sT1 := hC.cell cT1; skip; go_simp; (first | done | exact rfl | (rw [if_pos (by omega)]; done) | (exact str_idx (by omega))))); (try simp only [Act.put, zzT, zzO, zzS]))
                          | (apply WQ_call (by rfl); (focus (intro w' hC; go_simp; (first | done | exact rfl | exact ⟨rfl, rfl⟩))); (focus (intro w' hC; first | fail)); (try simp only [Act.put, zzT, zzO, zzS]))
                      refine WQ_nil ?_
                      intro wq hq
                      have hqU := false_upd2 hq
                      clear cT1
                      clear cT fT c0 f0 cB fB; replace kT := (hqU).heap kT (fun h => h); replace k0 := (hqU).heap k0 (fun h => h); replace kB := (hqU).heap kB (fun h => h); replace hz := Nat.le_trans hz (hqU).size; replace hU0 := hU0.then hqU (fun _ _ h => h.elim); have cT := cells_of kT; (try simp only [rdC, nodeC, tokC, setC, zzT, zzO, zzS] at cT); have fT := frees_of kT; have c0 := cells_of k0; (try simp only [rdC, nodeC, tokC, setC, zzT, zzO, zzS] at c0); have f0 := frees_of k0; have cB := cells_of kB; (try simp only [rdC, nodeC, tokC, setC, zzT, zzO, zzS] at cB); have fB := frees_of kB
                      go_wp2_with (first
                        | ((with_reducible refine stopSt 3 _ _ rfl ?_); unfold Stop; refine wpList_store_blk rfl 3 _ _ rfl _ _ rfl _ (by go_simp; first | done | exact rfl) _ _ _ k0 (zzB rfl) (by kernel_rfl) rfl (by simp only [spl, rdC, nodeC, tokC, setC, Value.cells, zzT, zzO, zzS, Array.toList]; exact rfl) ?_; intro w kn hUn hsn; clear cT fT; replace kT := (hUn).heap kT (fun e => tok_rd (HN.out.newer hU0).rd kT (by decide) (by decide) (.inl e)); have hN1 := (HN.out.newer hU0).put (st2 := { st1 with pos := t.next }) kn hUn rfl (HN.out.newer hU0).rd.done; clear kn hUn hsn; clear HN hU0 hz k0 c0 f0 kB cB fB; have HN := Lib.hid hN1; clear hN1; have k0 := HN.out.rd.blk; have kB := HN.out.br.blk; have hU0 := Upd.refl (fun k => w.heap.size ≤ k) w; have hz := Nat.le_refl w.heap.size; have c0 := cells_of k0; (try simp only [rdC, nodeC, tokC, setC, zzT, zzO, zzS] at c0); have f0 := frees_of k0; have cB := cells_of kB; (try simp only [rdC, nodeC, tokC, setC, zzT, zzO, zzS] at cB); have fB := frees_of kB; have cT := cells_of kT; (try simp only [rdC, nodeC, tokC, setC, zzT, zzO, zzS] at cT); have fT := frees_of kT))
                      have HW := HN.out.newer hU0.drew
                      obtain ⟨wd, hwd⟩ : ∃ wd, w.drew = wd := ⟨_, rfl⟩
                      have kTd : wd.heap[bT]? = some (.cells (tokC t) 115 (0, 0)) := by rw [← hwd]; exact kT
                      rw [hwd] at HW
                      have HWd := Lib.hid HW
                      have HNT : Hid (NatsAt wd (.slice none 0 0) t.node.kids) := Lib.hid (by rw [HTKS.out]; exact NatsAt.nil wd none 0)
                      clear HW hU0 hz k0 c0 f0 kB cB fB kT cT fT hqU
                      refine wp_region_seq (fun v => v.heap[bT]? = some (.cells (tokC t) 115 (0, 0))) (fun i => i != 16) [(0, true), (1, true), (2, true), (3, true), (4, true), (6, true), (7, true), (8, true), (9, true), (5, false), (10, true), (11, true), (12, true), (13, true), (14, true), (15, true), (16, false)] (by exact rfl) (by kernel_rfl) (by intro c a d v w h; cases d <;> exact h) ?_
                      rw [hwd]; have hS : wd.heap[bT]? = some (.cells (tokC t) 115 (0, 0)) := kTd
                      iterate 4 (((apply seq_val2 rfl (by rfl); (focus (intro w' hS'; have s1 := cell_of hS' 1 (v := .int .u8 t.node.op) rfl; go_simp; (first | done | exact rfl | (rw [if_pos (by omega)]; done)))); (focus exact hS))); (try simp only [Act.put, zzT, zzO, zzS]))
                      (apply seq_val2 rfl (by rfl); (focus (intro w' hS'; have s1 := cell_of hS' 1 (v := .int .u8 t.node.op) rfl; exact exec_load_part 113 _ rfl bT 1 rfl _ (nodeC t.node (.slice none 0 0)).toArray _ _ _ hS' Try.underlying113 rfl rfl (by kernel_rfl))); (focus exact hS))
                      (try simp only [Act.put, zzT, zzO, zzS])
                      iterate 4 (((apply seq_val2 rfl (by rfl); (focus (intro w' hS'; have s1 := cell_of hS' 1 (v := .int .u8 t.node.op) rfl; go_simp; (first | done | exact rfl | (rw [if_pos (by omega)]; done)))); (focus exact hS))); (try simp only [Act.put, zzT, zzO, zzS]))
                      apply seq_call2 (fun v w' => v = Value.int .i64 ((({ st1 with pos := t.next } : RdD).node t.node).1 : Nat) ∧ RdTo wd B rb s nv1 Z1 (fun _ => False) (({ st1 with pos := t.next } : RdD).node t.node).2 w') rfl (by rfl)
                      focus (go_simp; (first | done | exact rfl | exact ⟨rfl, rfl⟩))
                      focus (refine (node_any HWd.out.rd HWd.out.bse t.node (.slice none 0 0) HNT.out (fun g hg => by simp [Value.ownBlock] at hg) HNL.out).mono ?_; rintro e w' ⟨rfl, hT⟩; exact ⟨_, rfl, rfl, hT.mono (fun k hk => by simp [Value.ownBlock] at hk)⟩)
                      rintro v w5 ⟨rfl, hT⟩; have kT5 := (RdTo.upd hT).heap kTd (tok_rd HWd.out.rd kTd); obtain ⟨nv2, kvs2, Z2, hN1⟩ := HWd.out.to hT (fun k hk => hk.elim); clear hS hT; have hS : w5.heap[bT]? = some (.cells (tokC t) 115 (0, 0)) := kT5; refine ⟨fun _ => hS, ?_⟩
                      (try simp only [Act.put, zzT, zzO, zzS])
                      iterate 6 ((first | (refine seq_skip2 rfl (by rfl) hS ?_) | (apply seq_val2 rfl (by rfl); (focus (intro w' hS'; have s1 := cell_of hS' 1 (v := .int .u8 t.node.op) rfl; go_simp; (first | done | exact rfl | (rw [if_pos (by omega)]; done)))); (focus exact hS))); (try simp only [Act.put, zzT, zzO, zzS]))
                      apply seq_call2 (fun v w' => v = Value.tuple #[] ∧ ∃ kv', BrAt w' B bB (b1.piece (({ st1 with pos := t.next } : RdD).node t.node).1 false) kv' ∧ Upd (fun j => j = bB ∨ kv1.ownBlock = some j) w5 w' ∧ (∀ g, kv'.ownBlock = some g → kv1.ownBlock = some g ∨ w5.heap.size ≤ g)) rfl (by rfl)
                      focus (go_simp; (first | done | exact rfl | exact ⟨rfl, rfl⟩))
                      focus (refine (piece_any hN1.br hN1.bse _ _ _ HKL.out).mono ?_; rintro e w' ⟨rfl, hh⟩; exact ⟨_, rfl, rfl, hh⟩)
                      rintro v w6 ⟨rfl, kv2, hb1, hu1, hn1⟩; have hN2 := hN1.piece hb1 hu1 hn1; clear hN1 hb1 hu1 hn1 hS; refine ⟨(fun e => by cases e), ?_⟩
                      (try simp only [Act.put, zzT, zzO, zzS])
                      refine seq_nil ?_
                      go_wp2
                      go_roundg g
                      case measure => omega
                      case rel => exact ⟨_, _, _, _, _, _, hN2, HE2, (Stp.laid (st := { st1 with pos := t.next }) (b := b1) HNL.out).fine, by simp [BrD.piece]; omega⟩
                    · rw [g14] at HE2
                      have cT1 := cell_of kT 1 (v := .int .u8 t.node.op) rfl
                      go_wp2
                      first | (refine wq_region_from_still ?_) | (refine wq_region_from (by kernel_rfl) (by kernel_rfl) ?_)
                      repeat
                        first
                          | ((refine WQ_skip (by rfl) ?_); (try simp only [Act.put, zzT, zzO, zzS]))
                          | (apply WQ_val (by rfl); (focus (intro w' hC; have sT1 := hC.cell cT1; skip; go_simp; (first | done | exact rfl | (rw [if_pos (by omega)]; done) | (exact str_idx (by omega))))); (try simp only [Act.put, zzT, zzO, zzS]))
                          | (apply WQ_call (by rfl); (focus (intro w' hC; go_simp; (first | done | exact rfl | exact ⟨rfl, rfl⟩))); (focus (intro w' hC; first | fail)); (try simp only [Act.put, zzT, zzO, zzS]))
                      refine WQ_nil ?_
                      intro wq hq
                      have hqU := false_upd2 hq
                      clear cT1
                      clear cT fT c0 f0 cB fB; replace kT := (hqU).heap kT (fun h => h); replace k0 := (hqU).heap k0 (fun h => h); replace kB := (hqU).heap kB (fun h => h); replace hz := Nat.le_trans hz (hqU).size; replace hU0 := hU0.then hqU (fun _ _ h => h.elim); have cT := cells_of kT; (try simp only [rdC, nodeC, tokC, setC, zzT, zzO, zzS] at cT); have fT := frees_of kT; have c0 := cells_of k0; (try simp only [rdC, nodeC, tokC, setC, zzT, zzO, zzS] at c0); have f0 := frees_of k0; have cB := cells_of kB; (try simp only [rdC, nodeC, tokC, setC, zzT, zzO, zzS] at cB); have fB := frees_of kB
                      go_wp2_with (first
                        | ((with_reducible refine stopSt 3 _ _ rfl ?_); unfold Stop; refine wpList_store_blk rfl 3 _ _ rfl _ _ rfl _ (by go_simp; first | done | exact rfl) _ _ _ k0 (zzB rfl) (by kernel_rfl) rfl (by simp only [spl, rdC, nodeC, tokC, setC, Value.cells, zzT, zzO, zzS, Array.toList]; exact rfl) ?_; intro w kn hUn hsn; clear cT fT; replace kT := (hUn).heap kT (fun e => tok_rd (HN.out.newer hU0).rd kT (by decide) (by decide) (.inl e)); have hN1 := (HN.out.newer hU0).put (st2 := { st1 with pos := t.next }) kn hUn rfl (HN.out.newer hU0).rd.done; clear kn hUn hsn; clear HN hU0 hz k0 c0 f0 kB cB fB; have HN := Lib.hid hN1; clear hN1; have k0 := HN.out.rd.blk; have kB := HN.out.br.blk; have hU0 := Upd.refl (fun k => w.heap.size ≤ k) w; have hz := Nat.le_refl w.heap.size; have c0 := cells_of k0; (try simp only [rdC, nodeC, tokC, setC, zzT, zzO, zzS] at c0); have f0 := frees_of k0; have cB := cells_of kB; (try simp only [rdC, nodeC, tokC, setC, zzT, zzO, zzS] at cB); have fB := frees_of kB; have cT := cells_of kT; (try simp only [rdC, nodeC, tokC, setC, zzT, zzO, zzS] at cT); have fT := frees_of kT))
                      have HW := HN.out.newer hU0.drew
                      obtain ⟨wd, hwd⟩ : ∃ wd, w.drew = wd := ⟨_, rfl⟩
                      have kTd : wd.heap[bT]? = some (.cells (tokC t) 115 (0, 0)) := by rw [← hwd]; exact kT
                      rw [hwd] at HW
                      have HWd := Lib.hid HW
                      have HNT : Hid (NatsAt wd (.slice none 0 0) t.node.kids) := Lib.hid (by rw [HTKS.out]; exact NatsAt.nil wd none 0)
                      clear HW hU0 hz k0 c0 f0 kB cB fB kT cT fT hqU
                      refine wp_region_seq (fun v => v.heap[bT]? = some (.cells (tokC t) 115 (0, 0))) (fun i => i != 16) [(0, true), (1, true), (2, true), (3, true), (4, true), (6, true), (7, true), (8, true), (9, true), (5, false), (10, true), (11, true), (12, true), (13, true), (14, true), (15, true), (16, false)] (by exact rfl) (by kernel_rfl) (by intro c a d v w h; cases d <;> exact h) ?_
                      rw [hwd]; have hS : wd.heap[bT]? = some (.cells (tokC t) 115 (0, 0)) := kTd
                      iterate 4 (((apply seq_val2 rfl (by rfl); (focus (intro w' hS'; have s1 := cell_of hS' 1 (v := .int .u8 t.node.op) rfl; go_simp; (first | done | exact rfl | (rw [if_pos (by omega)]; done)))); (focus exact hS))); (try simp only [Act.put, zzT, zzO, zzS]))
                      (apply seq_val2 rfl (by rfl); (focus (intro w' hS'; have s1 := cell_of hS' 1 (v := .int .u8 t.node.op) rfl; exact exec_load_part 113 _ rfl bT 1 rfl _ (nodeC t.node (.slice none 0 0)).toArray _ _ _ hS' Try.underlying113 rfl rfl (by kernel_rfl))); (focus exact hS))
                      (try simp only [Act.put, zzT, zzO, zzS])
                      iterate 4 (((apply seq_val2 rfl (by rfl); (focus (intro w' hS'; have s1 := cell_of hS' 1 (v := .int .u8 t.node.op) rfl; go_simp; (first | done | exact rfl | (rw [if_pos (by omega)]; done)))); (focus exact hS))); (try simp only [Act.put, zzT, zzO, zzS]))
                      apply seq_call2 (fun v w' => v = Value.int .i64 ((({ st1 with pos := t.next } : RdD).node t.node).1 : Nat) ∧ RdTo wd B rb s nv1 Z1 (fun _ => False) (({ st1 with pos := t.next } : RdD).node t.node).2 w') rfl (by rfl)
                      focus (go_simp; (first | done | exact rfl | exact ⟨rfl, rfl⟩))
                      focus (refine (node_any HWd.out.rd HWd.out.bse t.node (.slice none 0 0) HNT.out (fun g hg => by simp [Value.ownBlock] at hg) HNL.out).mono ?_; rintro e w' ⟨rfl, hT⟩; exact ⟨_, rfl, rfl, hT.mono (fun k hk => by simp [Value.ownBlock] at hk)⟩)
                      rintro v w5 ⟨rfl, hT⟩; have kT5 := (RdTo.upd hT).heap kTd (tok_rd HWd.out.rd kTd); obtain ⟨nv2, kvs2, Z2, hN1⟩ := HWd.out.to hT (fun k hk => hk.elim); clear hS hT; have hS : w5.heap[bT]? = some (.cells (tokC t) 115 (0, 0)) := kT5; refine ⟨fun _ => hS, ?_⟩
                      (try simp only [Act.put, zzT, zzO, zzS])
                      iterate 6 ((first | (refine seq_skip2 rfl (by rfl) hS ?_) | (apply seq_val2 rfl (by rfl); (focus (intro w' hS'; have s1 := cell_of hS' 1 (v := .int .u8 t.node.op) rfl; go_simp; (first | done | exact rfl | (rw [if_pos (by omega)]; done)))); (focus exact hS))); (try simp only [Act.put, zzT, zzO, zzS]))
                      apply seq_call2 (fun v w' => v = Value.tuple #[] ∧ ∃ kv', BrAt w' B bB (b1.piece (({ st1 with pos := t.next } : RdD).node t.node).1 (t.node.op != 15)) kv' ∧ Upd (fun j => j = bB ∨ kv1.ownBlock = some j) w5 w' ∧ (∀ g, kv'.ownBlock = some g → kv1.ownBlock = some g ∨ w5.heap.size ≤ g)) rfl (by rfl)
                      focus (go_simp; (first | done | exact rfl | exact ⟨rfl, rfl⟩))
                      focus (refine (piece_any hN1.br hN1.bse _ _ _ HKL.out).mono ?_; rintro e w' ⟨rfl, hh⟩; exact ⟨_, rfl, rfl, hh⟩)
                      rintro v w6 ⟨rfl, kv2, hb1, hu1, hn1⟩; have hN2 := hN1.piece hb1 hu1 hn1; clear hN1 hb1 hu1 hn1 hS; refine ⟨(fun e => by cases e), ?_⟩
                      (try simp only [Act.put, zzT, zzO, zzS])
                      refine seq_nil ?_
                      go_wp2
                      go_roundg g
                      case measure => omega
                      case rel => exact ⟨_, _, _, _, _, _, hN2, HE2, (Stp.laid (st := { st1 with pos := t.next }) (b := b1) HNL.out).fine, by simp [BrD.piece]; omega⟩
                · have HR3 := Lib.hid HR2.out
                  rw [if_pos h0] at HR3
                  have g0 : (t.sign != 0) = true := by simpa using h0
                  clear h0 HR2
                  cases hsg : st1.sign rec s.data.toList b1 t.sign st1.pos t.next with
                  | none => have := HR3.out; rw [hsg] at this; cases this
                  | some q =>
                    obtain ⟨s2, b2⟩ := q
                    have HE2 : Hid (branchL rec s.data.toList within g s2 b2 = some (sE, bE)) := Lib.hid (by have := HR3.out; rw [hsg] at this; exact this)
                    have HSG := Lib.hid hsg
                    have HST := Lib.hid (Stp.sign HRN.out HF.out hsg)
                    clear hsg HR3
                    go_wp2_with (first
                      | (go_at_call 75; refine (sign_any (HN.out.newer hU0) rec HREC.out HRN.out hs t.sign st1.pos t.next (by omega) (by omega) (by omega) HNL.out HKL.out HMY.out (s2, b2) HSG.out).mono ?_; rintro e w6 ⟨rfl, nv2, kvs2, kv2, Z2, hN2⟩))
                    go_roundg g
                    case measure => omega
                    case rel => exact ⟨_, _, _, _, _, _, hN2, HE2, HST.out.fine, by have := HST.out.kids; omega⟩
          · have HE2 := Lib.hid (bl_non HE.out HS0.out ht.out hnon)
            simp only [hnon] at cT
            clear HE ht hnon
            go_wp2_with (first
              | ((with_reducible refine stopSt 5 _ _ rfl ?_); unfold Stop; refine wpList_store_blk rfl 5 _ _ rfl _ _ rfl _ (by go_simp; first | done | exact rfl) _ _ _ k0 (zzB rfl) (by kernel_rfl) rfl (by simp only [spl, rdC, nodeC, tokC, setC, Value.cells, zzT, zzO, zzS, Array.toList]; exact rfl) ?_; intro w kn hUn hsn; clear cT fT; replace kT := (hUn).heap kT (fun e => tok_rd (HN.out.newer hU0).rd kT (by decide) (by decide) (.inl e)); have hN1 := (HN.out.newer hU0).put (st2 := { st1 with mode := t.mode }) kn hUn rfl (HN.out.newer hU0).rd.done; clear kn hUn hsn; clear HN hU0 hz k0 c0 f0 kB cB fB; have HN := Lib.hid hN1; clear hN1; have k0 := HN.out.rd.blk; have kB := HN.out.br.blk; have hU0 := Upd.refl (fun k => w.heap.size ≤ k) w; have hz := Nat.le_refl w.heap.size; have c0 := cells_of k0; (try simp only [rdC, nodeC, tokC, setC, zzT, zzO, zzS] at c0); have f0 := frees_of k0; have cB := cells_of kB; (try simp only [rdC, nodeC, tokC, setC, zzT, zzO, zzS] at cB); have fB := frees_of kB; have cT := cells_of kT; (try simp only [rdC, nodeC, tokC, setC, zzT, zzO, zzS] at cT); have fT := frees_of kT)
              | ((with_reducible refine stopSt 5 _ _ rfl ?_); unfold Stop; refine wpList_store_blk rfl 5 _ _ rfl _ _ rfl _ (by go_simp; first | done | exact rfl) _ _ _ k0 (zzB rfl) (by kernel_rfl) rfl (by simp only [spl, rdC, nodeC, tokC, setC, Value.cells, zzT, zzO, zzS, Array.toList]; exact rfl) ?_; intro w kn hUn hsn; clear cT fT; replace kT := (hUn).heap kT (fun e => tok_rd (HN.out.newer hU0).rd kT (by decide) (by decide) (.inl e)); have hN1 := (HN.out.newer hU0).put (st2 := { st1 with mode := t.mode, case := t.case }) kn hUn rfl (HN.out.newer hU0).rd.done; clear kn hUn hsn; clear HN hU0 hz k0 c0 f0 kB cB fB; have HN := Lib.hid hN1; clear hN1; have k0 := HN.out.rd.blk; have kB := HN.out.br.blk; have hU0 := Upd.refl (fun k => w.heap.size ≤ k) w; have hz := Nat.le_refl w.heap.size; have c0 := cells_of k0; (try simp only [rdC, nodeC, tokC, setC, zzT, zzO, zzS] at c0); have f0 := frees_of k0; have cB := cells_of kB; (try simp only [rdC, nodeC, tokC, setC, zzT, zzO, zzS] at cB); have fB := frees_of kB; have cT := cells_of kT; (try simp only [rdC, nodeC, tokC, setC, zzT, zzO, zzS] at cT); have fT := frees_of kT)
              | ((with_reducible refine stopSt 3 _ _ rfl ?_); unfold Stop; refine wpList_store_blk rfl 3 _ _ rfl _ _ rfl _ (by go_simp; first | done | exact rfl) _ _ _ k0 (zzB rfl) (by kernel_rfl) rfl (by simp only [spl, rdC, nodeC, tokC, setC, Value.cells, zzT, zzO, zzS, Array.toList]; exact rfl) ?_; intro w kn hUn hsn; clear cT fT; replace kT := (hUn).heap kT (fun e => tok_rd (HN.out.newer hU0).rd kT (by decide) (by decide) (.inl e)); have hN1 := (HN.out.newer hU0).put (st2 := { st1 with mode := t.mode, case := t.case, pos := t.next }) kn hUn rfl (HN.out.newer hU0).rd.done; clear kn hUn hsn; clear HN hU0 hz k0 c0 f0 kB cB fB; have HN := Lib.hid hN1; clear hN1; have k0 := HN.out.rd.blk; have kB := HN.out.br.blk; have hU0 := Upd.refl (fun k => w.heap.size ≤ k) w; have hz := Nat.le_refl w.heap.size; have c0 := cells_of k0; (try simp only [rdC, nodeC, tokC, setC, zzT, zzO, zzS] at c0); have f0 := frees_of k0; have cB := cells_of kB; (try simp only [rdC, nodeC, tokC, setC, zzT, zzO, zzS] at cB); have fB := frees_of kB; have cT := cells_of kT; (try simp only [rdC, nodeC, tokC, setC, zzT, zzO, zzS] at cT); have fT := frees_of kT))
            go_roundg g
            case measure => omega
            case rel => exact ⟨_, _, _, _, _, _, HN.out, HE2, ⟨HNL.out, HMY.out⟩, by omega⟩
    · have ge : (st1.err == 0) = false := by simpa using he
      have HQ := Lib.hid (bl_stop HE.out (.inl he))
      clear he HE
      go_wp2
      first | (refine wq_region_from_still ?_) | (refine wq_region_from (by kernel_rfl) (by kernel_rfl) ?_)
      repeat
        first
          | ((refine WQ_skip (by rfl) ?_); (try simp only [Act.put, zzT, zzO, zzS]))
          | (apply WQ_val (by rfl); (focus (intro w' hC; have s17 := hC.cell c17; have s1 := hC.cell c1; have s0 := hC.cell c00; go_simp; (first | done | exact rfl | (rw [if_pos (by omega)]; done) | (exact str_idx (by omega))))); (try simp only [Act.put, zzT, zzO, zzS]))
          | (apply WQ_call (by rfl); (focus (intro w' hC; go_simp; (first | done | exact rfl | exact ⟨rfl, rfl⟩))); (focus (intro w' hC; first | fail)); (try simp only [Act.put, zzT, zzO, zzS]))
      refine WQ_nil ?_
      intro wq hq
      have hqU := false_upd2 hq
      clear c17 c1 c00
      clear c0 f0 cB fB; replace k0 := (hqU).heap k0 (fun h => h); replace kB := (hqU).heap kB (fun h => h); replace hz := Nat.le_trans hz (hqU).size; replace hU0 := hU0.then hqU (fun _ _ h => h.elim); have c0 := cells_of k0; (try simp only [rdC, nodeC, tokC, setC, zzT, zzO, zzS] at c0); have f0 := frees_of k0; have cB := cells_of kB; (try simp only [rdC, nodeC, tokC, setC, zzT, zzO, zzS] at cB); have fB := frees_of kB
      go_wp2_with (first
        | (go_at_call 63; refine (row_any (HN.out.newer hU0).rd (HN.out.newer hU0).bse 5 _ kv1 (nats_of_owns (HN.out.newer hU0).br.own) (own_ints (HN.out.newer hU0).br.own) HNL.out HKL.out).mono ?_; rintro e w2 ⟨rfl, hT⟩))
      have HRW : (st1).row 5 b1.kids = (k, st2) := by have e := HQ.out; rw [Prod.mk.injEq] at e; rw [← e.1, ← e.2]; exact HROW.out
      go_ret
      exact ⟨by rw [HRW]; rfl, by have h5 := branch_fin (HN.out.newer hU0) HBB.out hT; rw [HRW] at h5; exact h5⟩
end Go.Proofs.Ytigbfgmgdfnhcaa
