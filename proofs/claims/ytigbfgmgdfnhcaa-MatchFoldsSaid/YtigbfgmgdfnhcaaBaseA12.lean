/- Lemmas that the law's proof stands on, part 12: PatO. No condition. -/
import Derived.Test.YtigbfgmgdfnhcaaBaseA0
import Derived.Test.YtigbfgmgdfnhcaaBaseA11
set_option linter.all false
set_option linter.unusedVariables false
set_option linter.unusedSimpArgs false
namespace Go.Proofs.Ytigbfgmgdfnhcaa
open Go.RowKit
/-- What branches, asked within a group, does. -/
def RecC (s : ByteArray) (rec : RdD → Option (Nat × RdD)) : Prop := ∀ (B rb : Nat) (st : RdD) (nv : Value) (kvs : List Value) (Z : Nat → Prop) (w : World) (k : Nat) (st2 : RdD), RdAt w B rb s st nv kvs Z → B ≤ w.heap.size → st.nodes.length ≤ 401 → rec st = some (k, st2) →
  Calls Try.prog 43 #[.pointer (some ⟨rb, 0, none⟩), .bool true] w fun e w' => e = .returned (.int .i64 (k : Nat)) ∧ RdTo w B rb s nv Z (fun _ => False) st2 w'
def RecN (rec : RdD → Option (Nat × RdD)) : Prop := ∀ (st : RdD) (k : Nat) (st2 : RdD), st.nodes.length ≤ 401 → rec st = some (k, st2) → st2.nodes.length ≤ 401
theorem rdC_done (s : ByteArray) (st : RdD) (nv : Value) (n : Nat) (h : n < 10) (hd : st.done.length = 10) : (rdC s st nv).setIfInBounds (7 + n) (.bool true) = rdC s { st with done := st.done.set n true } nv := by
  obtain ⟨d0, d1, d2, d3, d4, d5, d6, d7, d8, d9, e⟩ : ∃ d0 d1 d2 d3 d4 d5 d6 d7 d8 d9, st.done = [d0, d1, d2, d3, d4, d5, d6, d7, d8, d9] := by
    match hq : st.done, hd with
    | [d0, d1, d2, d3, d4, d5, d6, d7, d8, d9], _ => exact ⟨d0, d1, d2, d3, d4, d5, d6, d7, d8, d9, rfl⟩
  have h2 : n = 0 ∨ n = 1 ∨ n = 2 ∨ n = 3 ∨ n = 4 ∨ n = 5 ∨ n = 6 ∨ n = 7 ∨ n = 8 ∨ n = 9 := by omega
  rcases h2 with rfl | rfl | rfl | rfl | rfl | rfl | rfl | rfl | rfl | rfl <;> simp [rdC, e]
theorem nats_one {w : World} {b k : Nat} (h : w.heap[b]? = some (.cells #[.int .i64 (k : Nat)] 3 (0, 0))) : NatsAt w (.slice (some ⟨b, 0, none⟩) 1 1) [k] :=
  ⟨_, 1, rfl, fun i hi => ⟨b, 0, rfl, by obtain rfl : i = 0 := (by simpa using hi); exact cell_of h 0 rfl⟩⟩
theorem token_pre (s : ByteArray) (rb : Nat) (mode cs : Int) (i : Nat) (hs : s.size ≤ 1000) (hi : i < s.size) : ∃ (t : TokD) (ok : Bool), Hid (tokenF s.data.toList mode cs i = (t, ok)) ∧ i + 1 ≤ t.next ∧ t.next ≤ i + 3 ∧
    ∀ w : World, w.cell? ⟨rb, 0, none⟩ = some (.string s) → w.cell? ⟨rb, 2, none⟩ = some (.int .u8 mode) → w.cell? ⟨rb, 6, none⟩ = some (.int .u8 cs) →
      Calls Try.prog 62 #[.pointer (some ⟨rb, 0, none⟩), .int .i64 i] w fun e w' => e = .returned (.tuple #[.agg (tokC t), .bool ok]) ∧ Upd (fun _ => False) w w' := by
  obtain ⟨h1, h2⟩ := token_next s.data.toList mode cs i
  refine ⟨_, _, Lib.hid rfl, h1, h2, fun w c0 c2 c6 => (token_any s rb mode cs i w hs hi c0 c2 c6).mono ?_⟩
  rintro e w' ⟨rfl, hb⟩
  exact ⟨rfl, false_upd2 hb⟩
set_option maxRecDepth 100000 in
set_option maxHeartbeats 8000000 in
theorem group_any {W : World} {B rb bb : Nat} {s : ByteArray} {nv0 kv0 : Value} {Z0 : Nat → Prop} {st : RdD} {b : BrD} {nv : Value} {kvs : List Value} {kv : Value} {Z : Nat → Prop} {w : World} (h : Now W B rb bb s nv0 kv0 Z0 st b nv kvs kv Z w)
    (rec : RdD → Option (Nat × RdD)) (hrec : RecC s rec) (hrn : RecN rec) (hs : s.size ≤ 1000) (i : Nat) (hl : st.nodes.length ≤ 401) (hkl : b.kids.length ≤ 1000) (q : RdD × BrD) (hq : st.group rec s.data.toList b i = some q) :
    Calls Try.prog 90 #[.pointer (some ⟨rb, 0, none⟩), .pointer (some ⟨bb, 0, none⟩), .int .i64 i] w (DonePost W B rb bb s nv0 kv0 Z0 q) := by
  have HL : Hid (s.data.toList.length = s.size) := Lib.hid (by simp)
  have HN := Lib.hid h
  have HNL := Lib.hid hl
  have HKL := Lib.hid hkl
  have HREC := Lib.hid hrec
  have k0 := h.rd.blk
  have kB := h.br.blk
  have hU0 := Upd.refl (fun k => w.heap.size ≤ k) w
  have hz := Nat.le_refl w.heap.size
  clear h hrec hkl
  unfold RdD.group at hq
  have c0 := cells_of k0; (try simp only [rdC, nodeC, tokC, setC, zzT, zzO, zzS] at c0); have f0 := frees_of k0; have cB := cells_of kB; (try simp only [rdC, nodeC, tokC, setC, zzT, zzO, zzS] at cB); have fB := frees_of kB
  by_cases h9 : 9 ≤ st.groups
  · rw [if_pos h9] at hq
    injection hq with hq
    subst hq
    have g9 : (9 : Int) ≤ (st.groups : Int) := by omega
    go_enter Try.func90, Try.ntmps90
    go_wp2_with (first
      | (go_at_call 74; refine (wrong_any (HN.out.newer hU0).rd 31 i).mono ?_; rintro e w ⟨rfl, hR1, hu1⟩; have hN1 := (HN.out.newer hU0).set hR1 hu1; clear hR1 hu1; clear HN hU0 hz k0 c0 f0 kB cB fB; have HN := Lib.hid hN1; clear hN1; have k0 := HN.out.rd.blk; have kB := HN.out.br.blk; have hU0 := Upd.refl (fun k => w.heap.size ≤ k) w; have hz := Nat.le_refl w.heap.size; have c0 := cells_of k0; (try simp only [rdC, nodeC, tokC, setC, zzT, zzO, zzS] at c0); have f0 := frees_of k0; have cB := cells_of kB; (try simp only [rdC, nodeC, tokC, setC, zzT, zzO, zzS] at cB); have fB := frees_of kB))
    first | go_end0 | go_ret
    exact ⟨rfl, _, _, _, _, HN.out⟩
  · rw [if_neg h9] at hq
    have g9 : ¬ (9 : Int) ≤ (st.groups : Int) := by omega
    have g8 : st.groups ≤ 8 := by omega
    cases hr : rec { st with groups := st.groups + 1 } with
    | none => rw [hr] at hq; cases hq
    | some q1 =>
      obtain ⟨k, s1⟩ := q1
      rw [hr] at hq
      simp only [] at hq
      have HR := Lib.hid hr
      have hl1 := hrn { st with groups := st.groups + 1 } k s1 hl hr
      have HNL1 := Lib.hid hl1
      have HQ := Lib.hid hq
      clear hr hq hrn h9 hl hl1
      go_enter Try.func90, Try.ntmps90
      go_upto_region 5 with (first
        | ((with_reducible refine stopSt 3 _ _ rfl ?_); unfold Stop; refine wpList_store_blk rfl 3 _ _ rfl _ _ rfl _ (by go_simp; first | done | exact rfl) _ _ _ k0 (zzB rfl) (by kernel_rfl) rfl (by simp only [spl, rdC, nodeC, tokC, setC, Value.cells, zzT, zzO, zzS, Array.toList]; exact rfl) ?_; intro w kn hUn hsn; have hN1 := (HN.out.newer hU0).put (st2 := { st with groups := st.groups + 1 }) kn hUn rfl (HN.out.newer hU0).rd.done; clear kn hUn hsn; clear HN hU0 hz k0 c0 f0 kB cB fB; have HN := Lib.hid hN1; clear hN1; have k0 := HN.out.rd.blk; have kB := HN.out.br.blk; have hU0 := Upd.refl (fun k => w.heap.size ≤ k) w; have hz := Nat.le_refl w.heap.size; have c0 := cells_of k0; (try simp only [rdC, nodeC, tokC, setC, zzT, zzO, zzS] at c0); have f0 := frees_of k0; have cB := cells_of kB; (try simp only [rdC, nodeC, tokC, setC, zzT, zzO, zzS] at cB); have fB := frees_of kB)
        | (go_at_call 43; refine (HREC.out B rb _ _ _ _ _ k s1 (HN.out.newer hU0).rd (HN.out.newer hU0).bse HNL.out HR.out).mono ?_; rintro e w ⟨rfl, hT⟩; obtain ⟨nv1, kvs1, Z1, hN1⟩ := (HN.out.newer hU0).to hT (fun k hk => hk.elim); clear hT HNL; have HNL := HNL1; clear HN hU0 hz k0 c0 f0 kB cB fB; have HN := Lib.hid hN1; clear hN1; have k0 := HN.out.rd.blk; have kB := HN.out.br.blk; have hU0 := Upd.refl (fun k => w.heap.size ≤ k) w; have hz := Nat.le_refl w.heap.size; have c0 := cells_of k0; (try simp only [rdC, nodeC, tokC, setC, zzT, zzO, zzS] at c0); have f0 := frees_of k0; have cB := cells_of kB; (try simp only [rdC, nodeC, tokC, setC, zzT, zzO, zzS] at cB); have fB := frees_of kB))
      by_cases he : s1.err = 0
      · have ge : (s1.err != 0) = false := by simpa using he
        by_cases hp : s.size ≤ s1.pos
        · have HQ2 : Hid (q = (s1.wrong 31 i, b)) := by
            refine Lib.hid ?_
            have := HQ.out
            rw [if_neg (by simpa using he), if_pos (by rw [HL.out]; exact hp)] at this
            injection this with this
            exact this.symm
          have gp : (s.size : Int) ≤ (s1.pos : Int) := by omega
          clear he HQ
          have c1 := cell_of k0 1 (v := .int .i64 s1.pos) rfl
          have c00 := cell_of k0 0 (v := .string s) rfl
          go_wp2
          first | (refine wq_region_from_still ?_) | (refine wq_region_from (by kernel_rfl) (by kernel_rfl) ?_)
          repeat
            first
              | ((refine WQ_skip (by rfl) ?_); (try simp only [Act.put, zzT, zzO, zzS]))
              | (apply WQ_val (by rfl); (focus (intro w' hC; have s1 := hC.cell c1; have s0 := hC.cell c00; go_simp; (first | done | exact rfl | (rw [if_pos (by omega)]; done) | (exact str_idx (by omega))))); (try simp only [Act.put, zzT, zzO, zzS]))
              | (apply WQ_call (by rfl); (focus (intro w' hC; go_simp; (first | done | exact rfl | exact ⟨rfl, rfl⟩))); (focus (intro w' hC; first | fail)); (try simp only [Act.put, zzT, zzO, zzS]))
          refine WQ_nil ?_
          intro wq hq
          have hqU := false_upd2 hq
          clear c1 c00
          clear c0 f0 cB fB; replace k0 := (hqU).heap k0 (fun h => h); replace kB := (hqU).heap kB (fun h => h); replace hz := Nat.le_trans hz (hqU).size; replace hU0 := hU0.then hqU (fun _ _ h => h.elim); have c0 := cells_of k0; (try simp only [rdC, nodeC, tokC, setC, zzT, zzO, zzS] at c0); have f0 := frees_of k0; have cB := cells_of kB; (try simp only [rdC, nodeC, tokC, setC, zzT, zzO, zzS] at cB); have fB := frees_of kB
          go_wp2_with (first
            | (go_at_call 74; refine (wrong_any (HN.out.newer hU0).rd 31 i).mono ?_; rintro e w ⟨rfl, hR1, hu1⟩; have hN1 := (HN.out.newer hU0).set hR1 hu1; clear hR1 hu1; clear HN hU0 hz k0 c0 f0 kB cB fB; have HN := Lib.hid hN1; clear hN1; have k0 := HN.out.rd.blk; have kB := HN.out.br.blk; have hU0 := Upd.refl (fun k => w.heap.size ≤ k) w; have hz := Nat.le_refl w.heap.size; have c0 := cells_of k0; (try simp only [rdC, nodeC, tokC, setC, zzT, zzO, zzS] at c0); have f0 := frees_of k0; have cB := cells_of kB; (try simp only [rdC, nodeC, tokC, setC, zzT, zzO, zzS] at cB); have fB := frees_of kB))
          first | go_end0 | go_ret
          exact ⟨rfl, by rw [HQ2.out]; exact ⟨_, _, _, _, HN.out⟩⟩
        · obtain ⟨t, ok, ht, hn1, hn2, hcl⟩ := token_pre s rb s1.mode s1.case s1.pos hs (by omega)
          have HTK := Lib.hid hcl
          have HQ2 : Hid (q = { s1 with pos := t.next, done := s1.done.set (st.groups + 1) true }.laid b { op := 8, n := ((st.groups + 1 : Nat) : Int), kids := [k] } true) := by
            refine Lib.hid ?_
            have := HQ.out
            rw [if_neg (by simpa using he), if_neg (by rw [HL.out]; exact hp), ht.out] at this
            injection this with this
            exact this.symm
          have gp : ¬ (s.size : Int) ≤ (s1.pos : Int) := by omega
          clear he HQ hcl ht
          have c1 := cell_of k0 1 (v := .int .i64 s1.pos) rfl
          have c00 := cell_of k0 0 (v := .string s) rfl
          go_wp2
          first | (refine wq_region_from_still ?_) | (refine wq_region_from (by kernel_rfl) (by kernel_rfl) ?_)
          repeat
            first
              | ((refine WQ_skip (by rfl) ?_); (try simp only [Act.put, zzT, zzO, zzS]))
              | (apply WQ_val (by rfl); (focus (intro w' hC; have s1 := hC.cell c1; have s0 := hC.cell c00; go_simp; (first | done | exact rfl | (rw [if_pos (by omega)]; done) | (exact str_idx (by omega))))); (try simp only [Act.put, zzT, zzO, zzS]))
              | (apply WQ_call (by rfl); (focus (intro w' hC; go_simp; (first | done | exact rfl | exact ⟨rfl, rfl⟩))); (focus (intro w' hC; first | fail)); (try simp only [Act.put, zzT, zzO, zzS]))
          refine WQ_nil ?_
          intro wq hq
          have hqU := false_upd2 hq
          clear c1 c00
          clear c0 f0 cB fB; replace k0 := (hqU).heap k0 (fun h => h); replace kB := (hqU).heap kB (fun h => h); replace hz := Nat.le_trans hz (hqU).size; replace hU0 := hU0.then hqU (fun _ _ h => h.elim); have c0 := cells_of k0; (try simp only [rdC, nodeC, tokC, setC, zzT, zzO, zzS] at c0); have f0 := frees_of k0; have cB := cells_of kB; (try simp only [rdC, nodeC, tokC, setC, zzT, zzO, zzS] at cB); have fB := frees_of kB
          have HDL := Lib.hid HN.out.rd.done
          go_wp2_with (first
            | (go_at_call 62; refine (HTK.out _ (c0 0) (c0 2) (c0 6)).mono ?_; rintro e w5 ⟨rfl, hqq⟩; clear c0 f0 cB fB; replace k0 := (hqq).heap k0 (fun h => h); replace kB := (hqq).heap kB (fun h => h); replace hz := Nat.le_trans hz (hqq).size; replace hU0 := hU0.then hqq (fun _ _ h => h.elim); have c0 := cells_of k0; (try simp only [rdC, nodeC, tokC, setC, zzT, zzO, zzS] at c0); have f0 := frees_of k0; have cB := cells_of kB; (try simp only [rdC, nodeC, tokC, setC, zzT, zzO, zzS] at cB); have fB := frees_of kB; clear hqq)
            | ((with_reducible refine stopAl 115 rfl ?_); unfold Stop; refine wpList_alloc_blk rfl 115 rfl (.agg #[.int .u8 0, .int .u8 0, .int .u8 0, .int .u64 0, .int .u64 0, .int .u64 0, .int .u64 0, .int .i64 0, .int .i64 0, .bool false, .int .i64 0, .slice none 0 0, .bool false, .int .i64 0, .int .u8 0, .int .u8 0]) (by kernel_rfl) #[.int .u8 0, .int .u8 0, .int .u8 0, .int .u64 0, .int .u64 0, .int .u64 0, .int .u64 0, .int .i64 0, .int .i64 0, .bool false, .int .i64 0, .slice none 0 0, .bool false, .int .i64 0, .int .u8 0, .int .u8 0] rfl ?_; intro bT wn hbn kn hUn hsn; clear c0 f0 cB fB; have l0T := heap_lt k0; rw [hbn] at l0T; replace k0 := hUn.heap k0 (fun h => h); have lBT := heap_lt kB; rw [hbn] at lBT; replace kB := hUn.heap kB (fun h => h); have gT : w.heap.size ≤ bT := Nat.le_trans hU0.size (Nat.le_of_eq hbn); have kT := kn; replace hU0 := hU0.then hUn (fun _ _ h => h.elim); replace hz : w.heap.size ≤ wn.heap.size := (by omega); clear kn hUn hsn hbn; have cT := cells_of kT; (try simp only [rdC, nodeC, tokC, setC, zzT, zzO, zzS] at cT); have fT := frees_of kT; have c0 := cells_of k0; (try simp only [rdC, nodeC, tokC, setC, zzT, zzO, zzS] at c0); have f0 := frees_of k0; have cB := cells_of kB; (try simp only [rdC, nodeC, tokC, setC, zzT, zzO, zzS] at cB); have fB := frees_of kB)
            | ((with_reducible refine stopSt 115 _ _ rfl ?_); unfold Stop; refine wpList_store_blk rfl 115 _ _ rfl _ _ rfl _ (by go_simp; first | done | exact rfl) _ _ _ kT (zzB rfl) (by kernel_rfl) rfl (by simp only [spl, rdC, nodeC, tokC, setC, Value.cells, zzT, zzO, zzS, Array.toList]; exact rfl) ?_; intro wn kn hUn hsn; clear cT fT c0 f0 cB fB; replace k0 := hUn.heap k0 (by omega); replace kB := hUn.heap kB (by omega); replace kT := kn; replace hU0 := hU0.then hUn (fun i hi (e : i = _) => by first | exact e | exact absurd hi (by omega) | (subst e; first | assumption | (show _ ≤ _; omega)) | exact .inl e | exact .inr e | exact .inr (.inl e) | exact .inr (.inr e)); replace hz := Nat.le_trans hz (Nat.le_of_eq hsn.symm); clear kn hUn hsn; have cT := cells_of kT; (try simp only [rdC, nodeC, tokC, setC, zzT, zzO, zzS] at cT); have fT := frees_of kT; have c0 := cells_of k0; (try simp only [rdC, nodeC, tokC, setC, zzT, zzO, zzS] at c0); have f0 := frees_of k0; have cB := cells_of kB; (try simp only [rdC, nodeC, tokC, setC, zzT, zzO, zzS] at cB); have fB := frees_of kB)
            | ((with_reducible refine stopSt 3 _ _ rfl ?_); unfold Stop; refine wpList_store_blk rfl 3 _ _ rfl _ _ rfl _ (by go_simp; first | done | exact rfl) _ _ _ k0 (zzB rfl) (by kernel_rfl) rfl (by simp only [spl, rdC, nodeC, tokC, setC, Value.cells, zzT, zzO, zzS, Array.toList]; exact rfl) ?_; intro w kn hUn hsn; clear cT fT; replace kT := (hUn).heap kT (fun e => tok_rd (HN.out.newer hU0).rd kT (by decide) (by decide) (.inl e)); have hN1 := (HN.out.newer hU0).put (st2 := { s1 with pos := t.next }) kn hUn rfl (HN.out.newer hU0).rd.done; clear kn hUn hsn; clear HN hU0 hz k0 c0 f0 kB cB fB; have HN := Lib.hid hN1; clear hN1; have k0 := HN.out.rd.blk; have kB := HN.out.br.blk; have hU0 := Upd.refl (fun k => w.heap.size ≤ k) w; have hz := Nat.le_refl w.heap.size; have c0 := cells_of k0; (try simp only [rdC, nodeC, tokC, setC, zzT, zzO, zzS] at c0); have f0 := frees_of k0; have cB := cells_of kB; (try simp only [rdC, nodeC, tokC, setC, zzT, zzO, zzS] at cB); have fB := frees_of kB; have cT := cells_of kT; (try simp only [rdC, nodeC, tokC, setC, zzT, zzO, zzS] at cT); have fT := frees_of kT)
            | ((with_reducible refine stopSt 4 _ _ rfl ?_); unfold Stop; refine wpList_store_blk rfl 4 _ _ rfl rb (7 + (st.groups + 1)) rfl (.bool true) rfl (rdC s { s1 with pos := t.next } nv1) (Array.setIfInBounds (rdC s { s1 with pos := t.next } nv1) (7 + (st.groups + 1)) (.bool true)) _ k0 (by show 7 + (st.groups + 1) + 1 ≤ 21; omega) (by kernel_rfl) rfl rfl ?_; intro w kn hUn hsn; clear cT fT kT; rw [rdC_done s { s1 with pos := t.next } nv1 (st.groups + 1) (by omega) HDL.out] at kn; have hN1 := (HN.out.newer hU0).put (st2 := { s1 with pos := t.next, done := s1.done.set (st.groups + 1) true }) kn hUn rfl (by simp [HDL.out]); clear kn hUn hsn; clear HN hU0 hz k0 c0 f0 kB cB fB; have HN := Lib.hid hN1; clear hN1; have k0 := HN.out.rd.blk; have kB := HN.out.br.blk; have hU0 := Upd.refl (fun k => w.heap.size ≤ k) w; have hz := Nat.le_refl w.heap.size; have c0 := cells_of k0; (try simp only [rdC, nodeC, tokC, setC, zzT, zzO, zzS] at c0); have f0 := frees_of k0; have cB := cells_of kB; (try simp only [rdC, nodeC, tokC, setC, zzT, zzO, zzS] at cB); have fB := frees_of kB)
            | ((with_reducible refine stopBS 51 _ _ rfl ?_); unfold Stop; refine wpList_sliceLit_blk rfl 51 3 1 _ rfl Try.underlying51 #[.int .i64 (k : Nat)] (by go_simp; first | done | rfl | kernel_rfl) ?_; intro bK wn hbn kn hUn hsn; clear c0 f0 cB fB; have l0K := heap_lt k0; rw [hbn] at l0K; replace k0 := hUn.heap k0 (fun h => h); have lBK := heap_lt kB; rw [hbn] at lBK; replace kB := hUn.heap kB (fun h => h); have gK : w.heap.size ≤ bK := Nat.le_trans hU0.size (Nat.le_of_eq hbn); have kK := kn; replace hU0 := hU0.then hUn (fun _ _ h => h.elim); replace hz : w.heap.size ≤ wn.heap.size := (by omega); clear kn hUn hsn hbn; have cK := cells_of kK; (try simp only [rdC, nodeC, tokC, setC, zzT, zzO, zzS] at cK); have fK := frees_of kK; have c0 := cells_of k0; (try simp only [rdC, nodeC, tokC, setC, zzT, zzO, zzS] at c0); have f0 := frees_of k0; have cB := cells_of kB; (try simp only [rdC, nodeC, tokC, setC, zzT, zzO, zzS] at cB); have fB := frees_of kB)
            | (go_at_call 77; refine (node_any (HN.out.newer hU0).rd (HN.out.newer hU0).bse { op := 8, n := (st.groups : Int) + 1, kids := [k] } (.slice (some ⟨bK, 0, none⟩) 1 1) (nats_one kK) (fun g hg => by simp only [Value.ownBlock, Option.some.injEq] at hg; subst hg; exact ⟨_, _, kK⟩) HNL.out).mono ?_; rintro e w ⟨rfl, hT⟩; obtain ⟨nv1, kvs1, Z1, hN1⟩ := (HN.out.newer hU0).to hT (fun k hk => by simp only [Value.ownBlock, Option.some.injEq] at hk; subst hk; exact ⟨Nat.le_trans HN.out.upd.size gK, (HN.out.away gK).2.2.2⟩); clear hT; clear HN hU0 hz k0 c0 f0 kB cB fB; have HN := Lib.hid hN1; clear hN1; have k0 := HN.out.rd.blk; have kB := HN.out.br.blk; have hU0 := Upd.refl (fun k => w.heap.size ≤ k) w; have hz := Nat.le_refl w.heap.size; have c0 := cells_of k0; (try simp only [rdC, nodeC, tokC, setC, zzT, zzO, zzS] at c0); have f0 := frees_of k0; have cB := cells_of kB; (try simp only [rdC, nodeC, tokC, setC, zzT, zzO, zzS] at cB); have fB := frees_of kB)
            | (go_at_call 76; refine (piece_any (HN.out.newer hU0).br (HN.out.newer hU0).bse _ _ _ HKL.out).mono ?_; rintro e w ⟨rfl, kv1, hb1, hu1, hn1⟩; have hN1 := (HN.out.newer hU0).piece hb1 hu1 hn1; clear hb1 hu1 hn1; clear HN hU0 hz k0 c0 f0 kB cB fB; have HN := Lib.hid hN1; clear hN1; have k0 := HN.out.rd.blk; have kB := HN.out.br.blk; have hU0 := Upd.refl (fun k => w.heap.size ≤ k) w; have hz := Nat.le_refl w.heap.size; have c0 := cells_of k0; (try simp only [rdC, nodeC, tokC, setC, zzT, zzO, zzS] at c0); have f0 := frees_of k0; have cB := cells_of kB; (try simp only [rdC, nodeC, tokC, setC, zzT, zzO, zzS] at cB); have fB := frees_of kB))
          first | go_end0 | go_ret
          refine ⟨rfl, ?_⟩
          rw [HQ2.out]
          exact ⟨_, _, _, _, HN.out⟩
      · have HQ2 : Hid (q = (s1, b)) := by
          refine Lib.hid ?_
          have := HQ.out
          rw [if_pos (by simpa using he)] at this
          injection this with this
          exact this.symm
        have ge : (s1.err != 0) = true := by simpa using he
        clear he HQ
        go_wp2
        first | go_end0 | go_ret
        exact ⟨rfl, by rw [HQ2.out]; exact ⟨_, _, _, _, (HN.out.newer hU0)⟩⟩
end Go.Proofs.Ytigbfgmgdfnhcaa
