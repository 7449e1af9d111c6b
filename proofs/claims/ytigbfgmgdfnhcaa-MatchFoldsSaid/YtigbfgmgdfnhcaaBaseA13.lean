/- Lemmas that the law's proof stands on, part 13: PatP. No condition. -/
import Derived.Test.YtigbfgmgdfnhcaaBaseA0
import Derived.Test.YtigbfgmgdfnhcaaBaseA12
set_option linter.all false
set_option linter.unusedVariables false
set_option linter.unusedSimpArgs false
namespace Go.Proofs.Ytigbfgmgdfnhcaa
open Go.RowKit
theorem collection_at {w : World} {B rb : Nat} {s : ByteArray} {st : RdD} {nv : Value} {kvs : List Value} {Z : Nat → Prop} (h : RdAt w B rb s st nv kvs Z) (hs : s.size ≤ 1000) (o : Nat) (n : Int) (hn : n = (o : Nat)) (ho : o ≤ 1000) :
    Calls Try.prog 89 #[.pointer (some ⟨rb, 0, none⟩), .int .i64 n] w (CollPost w B rb s st nv kvs Z o) := by
  subst hn
  exact collection_any h hs o ho
theorem coll_nodes {st s2 : RdD} {l : List UInt8} {o e : Nat} {x : SetD} (h : st.collection l o = (x, e, s2)) : s2.nodes = st.nodes := by
  unfold RdD.collection at h
  split at h
  · simp only [Prod.mk.injEq] at h; rw [← h.2.2]
  · simp only [Prod.mk.injEq] at h
    rw [← h.2.2]
    split
    · unfold RdD.wrong; split <;> rfl
    · rfl
theorem collection_ret {w : World} {B rb : Nat} {s : ByteArray} {st : RdD} {nv : Value} {kvs : List Value} {Z : Nat → Prop} (h : RdAt w B rb s st nv kvs Z) (hs : s.size ≤ 1000) (o : Nat) (n : Int) (hn : n = (o : Nat)) (ho : o ≤ 1000) (x : SetD) (e1 : Nat) (s2 : RdD) (hq : st.collection s.data.toList o = (x, e1, s2)) :
    Calls Try.prog 89 #[.pointer (some ⟨rb, 0, none⟩), .int .i64 n] w fun e w' => e = .returned (.tuple #[.agg (setC x), .int .i64 (e1 : Nat)]) ∧ RdAt w' B rb s s2 nv kvs Z ∧ Upd (fun k => k = rb) w w' := by
  refine (collection_at h hs o n hn ho).mono ?_
  unfold CollPost
  rw [hq]
  exact fun _ _ h => h
theorem ends_ret {w : World} {B rb : Nat} {s : ByteArray} {st : RdD} {nv : Value} {kvs : List Value} {Z : Nat → Prop} (h : RdAt w B rb s st nv kvs Z) (hs : s.size ≤ 1000) (i : Nat) (hi : i ≤ 1003) (E : Bool) (hE : endsL s.data.toList st.case (s.size + 1) st.mode i = E) :
    Calls Try.prog 87 #[.pointer (some ⟨rb, 0, none⟩), .int .i64 i] w fun e w' => e = .returned (.bool E) ∧ RdAt w' B rb s st nv kvs Z ∧ Upd (fun k => k = rb) w w' := by
  subst hE
  exact ends_any h hs i hi
set_option maxRecDepth 100000 in
set_option maxHeartbeats 8000000 in
theorem sign_any {W : World} {B rb bb : Nat} {s : ByteArray} {nv0 kv0 : Value} {Z0 : Nat → Prop} {st : RdD} {b : BrD} {nv : Value} {kvs : List Value} {kv : Value} {Z : Nat → Prop} {w : World} (h : Now W B rb bb s nv0 kv0 Z0 st b nv kvs kv Z w)
    (rec : RdD → Option (Nat × RdD)) (hrec : RecC s rec) (hrn : RecN rec) (hs : s.size ≤ 900) (c : Int) (i next : Nat) (hi : i ≤ 1000) (hnx : next ≤ 1000) (hn1 : 1 ≤ next) (hl : st.nodes.length ≤ 401) (hkl : b.kids.length ≤ 1000) (hmay : b.may = true → b.kids ≠ [])
    (q : RdD × BrD) (hq : st.sign rec s.data.toList b c i next = some q) :
    Calls Try.prog 75 #[.pointer (some ⟨rb, 0, none⟩), .pointer (some ⟨bb, 0, none⟩), .int .u8 c, .int .i64 i, .int .i64 next] w (DonePost W B rb bb s nv0 kv0 Z0 q) := by
  obtain ⟨ka, kc, rfl⟩ := h.br.form
  have HL : Hid (s.data.toList.length = s.size) := Lib.hid (by simp)
  have HN := Lib.hid h
  have HNL := Lib.hid hl
  have HKL := Lib.hid hkl
  have HREC := Lib.hid hrec
  have HRN := Lib.hid hrn
  have HM := Lib.hid hmay
  have k0 := h.rd.blk
  have kB := h.br.blk
  have hU0 := Upd.refl (fun k => w.heap.size ≤ k) w
  have hz := Nat.le_refl w.heap.size
  clear h hrec hrn hkl hmay hl
  unfold RdD.sign at hq
  simp only [] at hq
  have c0 := cells_of k0; (try simp only [rdC, nodeC, tokC, setC, zzT, zzO, zzS] at c0); have f0 := frees_of k0; have cB := cells_of kB; (try simp only [rdC, nodeC, tokC, setC, zzT, zzO, zzS] at cB); have fB := frees_of kB
  by_cases h94 : c = 94
  · rw [if_pos h94] at hq
    subst h94
    injection hq with hq
    by_cases hk : b.kids = []
    · rw [if_pos hk] at hq
      have HQ := Lib.hid hq.symm
      have gk : b.kids.length = 0 := by rw [hk]; rfl
      have gk2 : ((b.kids.length : Int) == 0) = true := by rw [gk]; rfl
      clear hq hk gk
      go_enter Try.func75, Try.ntmps75
      go_wp2_with (first
        | ((with_reducible refine stopSt 3 _ _ rfl ?_); unfold Stop; refine wpList_store_blk rfl 3 _ _ rfl _ _ rfl _ (by go_simp; first | done | exact rfl) _ _ _ k0 (zzB rfl) (by kernel_rfl) rfl (by simp only [spl, rdC, nodeC, tokC, setC, Value.cells, zzT, zzO, zzS, Array.toList]; exact rfl) ?_; intro w kn hUn hsn; have hN1 := (HN.out.newer hU0).put (st2 := { st with pos := next }) kn hUn rfl (HN.out.newer hU0).rd.done; clear kn hUn hsn; clear HN hU0 hz k0 c0 f0 kB cB fB; have HN := Lib.hid hN1; clear hN1; have k0 := HN.out.rd.blk; have kB := HN.out.br.blk; have hU0 := Upd.refl (fun k => w.heap.size ≤ k) w; have hz := Nat.le_refl w.heap.size; have c0 := cells_of k0; (try simp only [rdC, nodeC, tokC, setC, zzT, zzO, zzS] at c0); have f0 := frees_of k0; have cB := cells_of kB; (try simp only [rdC, nodeC, tokC, setC, zzT, zzO, zzS] at cB); have fB := frees_of kB)
        | (go_at_call 77; refine (node_any (HN.out.newer hU0).rd (HN.out.newer hU0).bse { op := 10 } (.slice none 0 0) (NatsAt.nil _ none 0) (fun g hg => by simp [Value.ownBlock] at hg) HNL.out).mono ?_; rintro e w ⟨rfl, hT⟩; obtain ⟨nv1, kvs1, Z1, hN1⟩ := (HN.out.newer hU0).to hT (fun k hk => by simp [Value.ownBlock] at hk); clear hT; clear HN hU0 hz k0 c0 f0 kB cB fB; have HN := Lib.hid hN1; clear hN1; have k0 := HN.out.rd.blk; have kB := HN.out.br.blk; have hU0 := Upd.refl (fun k => w.heap.size ≤ k) w; have hz := Nat.le_refl w.heap.size; have c0 := cells_of k0; (try simp only [rdC, nodeC, tokC, setC, zzT, zzO, zzS] at c0); have f0 := frees_of k0; have cB := cells_of kB; (try simp only [rdC, nodeC, tokC, setC, zzT, zzO, zzS] at cB); have fB := frees_of kB)
        | (go_at_call 76; refine (piece_any (HN.out.newer hU0).br (HN.out.newer hU0).bse _ _ _ HKL.out).mono ?_; rintro e w ⟨rfl, kv1, hb1, hu1, hn1⟩; have hN1 := (HN.out.newer hU0).piece hb1 hu1 hn1; clear hb1 hu1 hn1; clear HN hU0 hz k0 c0 f0 kB cB fB; have HN := Lib.hid hN1; clear hN1; have k0 := HN.out.rd.blk; have kB := HN.out.br.blk; have hU0 := Upd.refl (fun k => w.heap.size ≤ k) w; have hz := Nat.le_refl w.heap.size; have c0 := cells_of k0; (try simp only [rdC, nodeC, tokC, setC, zzT, zzO, zzS] at c0); have f0 := frees_of k0; have cB := cells_of kB; (try simp only [rdC, nodeC, tokC, setC, zzT, zzO, zzS] at cB); have fB := frees_of kB))
      first | go_end0 | go_ret
      exact ⟨rfl, by rw [HQ.out]; exact ⟨_, _, _, _, HN.out⟩⟩
    · rw [if_neg hk] at hq
      have HQ := Lib.hid hq.symm
      have gk2 : ((b.kids.length : Int) == 0) = false := by
        have : b.kids.length ≠ 0 := fun e => hk (List.length_eq_zero_iff.1 e)
        simpa using this
      clear hq hk
      go_enter Try.func75, Try.ntmps75
      go_wp2_with (first
        | ((with_reducible refine stopSt 3 _ _ rfl ?_); unfold Stop; refine wpList_store_blk rfl 3 _ _ rfl _ _ rfl _ (by go_simp; first | done | exact rfl) _ _ _ k0 (zzB rfl) (by kernel_rfl) rfl (by simp only [spl, rdC, nodeC, tokC, setC, Value.cells, zzT, zzO, zzS, Array.toList]; exact rfl) ?_; intro w kn hUn hsn; have hN1 := (HN.out.newer hU0).put (st2 := { st with pos := next }) kn hUn rfl (HN.out.newer hU0).rd.done; clear kn hUn hsn; clear HN hU0 hz k0 c0 f0 kB cB fB; have HN := Lib.hid hN1; clear hN1; have k0 := HN.out.rd.blk; have kB := HN.out.br.blk; have hU0 := Upd.refl (fun k => w.heap.size ≤ k) w; have hz := Nat.le_refl w.heap.size; have c0 := cells_of k0; (try simp only [rdC, nodeC, tokC, setC, zzT, zzO, zzS] at c0); have f0 := frees_of k0; have cB := cells_of kB; (try simp only [rdC, nodeC, tokC, setC, zzT, zzO, zzS] at cB); have fB := frees_of kB)
        | (go_at_call 77; refine (node_any (HN.out.newer hU0).rd (HN.out.newer hU0).bse { op := 2, c := 94 } (.slice none 0 0) (NatsAt.nil _ none 0) (fun g hg => by simp [Value.ownBlock] at hg) HNL.out).mono ?_; rintro e w ⟨rfl, hT⟩; obtain ⟨nv1, kvs1, Z1, hN1⟩ := (HN.out.newer hU0).to hT (fun k hk => by simp [Value.ownBlock] at hk); clear hT; clear HN hU0 hz k0 c0 f0 kB cB fB; have HN := Lib.hid hN1; clear hN1; have k0 := HN.out.rd.blk; have kB := HN.out.br.blk; have hU0 := Upd.refl (fun k => w.heap.size ≤ k) w; have hz := Nat.le_refl w.heap.size; have c0 := cells_of k0; (try simp only [rdC, nodeC, tokC, setC, zzT, zzO, zzS] at c0); have f0 := frees_of k0; have cB := cells_of kB; (try simp only [rdC, nodeC, tokC, setC, zzT, zzO, zzS] at cB); have fB := frees_of kB)
        | (go_at_call 76; refine (piece_any (HN.out.newer hU0).br (HN.out.newer hU0).bse _ _ _ HKL.out).mono ?_; rintro e w ⟨rfl, kv1, hb1, hu1, hn1⟩; have hN1 := (HN.out.newer hU0).piece hb1 hu1 hn1; clear hb1 hu1 hn1; clear HN hU0 hz k0 c0 f0 kB cB fB; have HN := Lib.hid hN1; clear hN1; have k0 := HN.out.rd.blk; have kB := HN.out.br.blk; have hU0 := Upd.refl (fun k => w.heap.size ≤ k) w; have hz := Nat.le_refl w.heap.size; have c0 := cells_of k0; (try simp only [rdC, nodeC, tokC, setC, zzT, zzO, zzS] at c0); have f0 := frees_of k0; have cB := cells_of kB; (try simp only [rdC, nodeC, tokC, setC, zzT, zzO, zzS] at cB); have fB := frees_of kB))
      first | go_end0 | go_ret
      exact ⟨rfl, by rw [HQ.out]; exact ⟨_, _, _, _, HN.out⟩⟩
  by_cases h36 : c = 36
  · rw [if_neg h94, if_pos h36] at hq
    subst h36
    injection hq with hq
    clear h94
    obtain ⟨E, hE⟩ : ∃ E, endsL s.data.toList st.case (s.data.toList.length + 1) st.mode next = E := ⟨_, rfl⟩
    rw [hE] at hq
    have HEN := fun (w : World) (hr : RdAt w B rb s { st with pos := next } nv kvs Z) => ends_ret hr (by omega) next (by omega) E (by rw [← HL.out]; exact hE)
    have HEN := Lib.hid HEN
    clear hE
    cases E
    · rw [if_neg Bool.false_ne_true] at hq
      have HQ := Lib.hid hq.symm
      clear hq
      go_enter Try.func75, Try.ntmps75
      go_wp2_with (first
        | ((with_reducible refine stopSt 3 _ _ rfl ?_); unfold Stop; refine wpList_store_blk rfl 3 _ _ rfl _ _ rfl _ (by go_simp; first | done | exact rfl) _ _ _ k0 (zzB rfl) (by kernel_rfl) rfl (by simp only [spl, rdC, nodeC, tokC, setC, Value.cells, zzT, zzO, zzS, Array.toList]; exact rfl) ?_; intro w kn hUn hsn; have hN1 := (HN.out.newer hU0).put (st2 := { st with pos := next }) kn hUn rfl (HN.out.newer hU0).rd.done; clear kn hUn hsn; clear HN hU0 hz k0 c0 f0 kB cB fB; have HN := Lib.hid hN1; clear hN1; have k0 := HN.out.rd.blk; have kB := HN.out.br.blk; have hU0 := Upd.refl (fun k => w.heap.size ≤ k) w; have hz := Nat.le_refl w.heap.size; have c0 := cells_of k0; (try simp only [rdC, nodeC, tokC, setC, zzT, zzO, zzS] at c0); have f0 := frees_of k0; have cB := cells_of kB; (try simp only [rdC, nodeC, tokC, setC, zzT, zzO, zzS] at cB); have fB := frees_of kB)
        | (go_at_call 87; refine (HEN.out _ (HN.out.newer hU0).rd).mono ?_; rintro e w ⟨rfl, hR1, hu1⟩; have hN1 := (HN.out.newer hU0).set hR1 hu1; clear hR1 hu1; clear HN hU0 hz k0 c0 f0 kB cB fB; have HN := Lib.hid hN1; clear hN1; have k0 := HN.out.rd.blk; have kB := HN.out.br.blk; have hU0 := Upd.refl (fun k => w.heap.size ≤ k) w; have hz := Nat.le_refl w.heap.size; have c0 := cells_of k0; (try simp only [rdC, nodeC, tokC, setC, zzT, zzO, zzS] at c0); have f0 := frees_of k0; have cB := cells_of kB; (try simp only [rdC, nodeC, tokC, setC, zzT, zzO, zzS] at cB); have fB := frees_of kB)
        | (go_at_call 77; refine (node_any (HN.out.newer hU0).rd (HN.out.newer hU0).bse { op := 2, c := 36 } (.slice none 0 0) (NatsAt.nil _ none 0) (fun g hg => by simp [Value.ownBlock] at hg) HNL.out).mono ?_; rintro e w ⟨rfl, hT⟩; obtain ⟨nv1, kvs1, Z1, hN1⟩ := (HN.out.newer hU0).to hT (fun k hk => by simp [Value.ownBlock] at hk); clear hT; clear HN hU0 hz k0 c0 f0 kB cB fB; have HN := Lib.hid hN1; clear hN1; have k0 := HN.out.rd.blk; have kB := HN.out.br.blk; have hU0 := Upd.refl (fun k => w.heap.size ≤ k) w; have hz := Nat.le_refl w.heap.size; have c0 := cells_of k0; (try simp only [rdC, nodeC, tokC, setC, zzT, zzO, zzS] at c0); have f0 := frees_of k0; have cB := cells_of kB; (try simp only [rdC, nodeC, tokC, setC, zzT, zzO, zzS] at cB); have fB := frees_of kB)
        | (go_at_call 76; refine (piece_any (HN.out.newer hU0).br (HN.out.newer hU0).bse _ _ _ HKL.out).mono ?_; rintro e w ⟨rfl, kv1, hb1, hu1, hn1⟩; have hN1 := (HN.out.newer hU0).piece hb1 hu1 hn1; clear hb1 hu1 hn1; clear HN hU0 hz k0 c0 f0 kB cB fB; have HN := Lib.hid hN1; clear hN1; have k0 := HN.out.rd.blk; have kB := HN.out.br.blk; have hU0 := Upd.refl (fun k => w.heap.size ≤ k) w; have hz := Nat.le_refl w.heap.size; have c0 := cells_of k0; (try simp only [rdC, nodeC, tokC, setC, zzT, zzO, zzS] at c0); have f0 := frees_of k0; have cB := cells_of kB; (try simp only [rdC, nodeC, tokC, setC, zzT, zzO, zzS] at cB); have fB := frees_of kB))
      first | go_end0 | go_ret
      exact ⟨rfl, by rw [HQ.out]; exact ⟨_, _, _, _, HN.out⟩⟩
    · rw [if_pos rfl] at hq
      have HQ := Lib.hid hq.symm
      clear hq
      go_enter Try.func75, Try.ntmps75
      go_wp2_with (first
        | ((with_reducible refine stopSt 3 _ _ rfl ?_); unfold Stop; refine wpList_store_blk rfl 3 _ _ rfl _ _ rfl _ (by go_simp; first | done | exact rfl) _ _ _ k0 (zzB rfl) (by kernel_rfl) rfl (by simp only [spl, rdC, nodeC, tokC, setC, Value.cells, zzT, zzO, zzS, Array.toList]; exact rfl) ?_; intro w kn hUn hsn; have hN1 := (HN.out.newer hU0).put (st2 := { st with pos := next }) kn hUn rfl (HN.out.newer hU0).rd.done; clear kn hUn hsn; clear HN hU0 hz k0 c0 f0 kB cB fB; have HN := Lib.hid hN1; clear hN1; have k0 := HN.out.rd.blk; have kB := HN.out.br.blk; have hU0 := Upd.refl (fun k => w.heap.size ≤ k) w; have hz := Nat.le_refl w.heap.size; have c0 := cells_of k0; (try simp only [rdC, nodeC, tokC, setC, zzT, zzO, zzS] at c0); have f0 := frees_of k0; have cB := cells_of kB; (try simp only [rdC, nodeC, tokC, setC, zzT, zzO, zzS] at cB); have fB := frees_of kB)
        | (go_at_call 87; refine (HEN.out _ (HN.out.newer hU0).rd).mono ?_; rintro e w ⟨rfl, hR1, hu1⟩; have hN1 := (HN.out.newer hU0).set hR1 hu1; clear hR1 hu1; clear HN hU0 hz k0 c0 f0 kB cB fB; have HN := Lib.hid hN1; clear hN1; have k0 := HN.out.rd.blk; have kB := HN.out.br.blk; have hU0 := Upd.refl (fun k => w.heap.size ≤ k) w; have hz := Nat.le_refl w.heap.size; have c0 := cells_of k0; (try simp only [rdC, nodeC, tokC, setC, zzT, zzO, zzS] at c0); have f0 := frees_of k0; have cB := cells_of kB; (try simp only [rdC, nodeC, tokC, setC, zzT, zzO, zzS] at cB); have fB := frees_of kB)
        | (go_at_call 77; refine (node_any (HN.out.newer hU0).rd (HN.out.newer hU0).bse { op := 11 } (.slice none 0 0) (NatsAt.nil _ none 0) (fun g hg => by simp [Value.ownBlock] at hg) HNL.out).mono ?_; rintro e w ⟨rfl, hT⟩; obtain ⟨nv1, kvs1, Z1, hN1⟩ := (HN.out.newer hU0).to hT (fun k hk => by simp [Value.ownBlock] at hk); clear hT; clear HN hU0 hz k0 c0 f0 kB cB fB; have HN := Lib.hid hN1; clear hN1; have k0 := HN.out.rd.blk; have kB := HN.out.br.blk; have hU0 := Upd.refl (fun k => w.heap.size ≤ k) w; have hz := Nat.le_refl w.heap.size; have c0 := cells_of k0; (try simp only [rdC, nodeC, tokC, setC, zzT, zzO, zzS] at c0); have f0 := frees_of k0; have cB := cells_of kB; (try simp only [rdC, nodeC, tokC, setC, zzT, zzO, zzS] at cB); have fB := frees_of kB)
        | (go_at_call 76; refine (piece_any (HN.out.newer hU0).br (HN.out.newer hU0).bse _ _ _ HKL.out).mono ?_; rintro e w ⟨rfl, kv1, hb1, hu1, hn1⟩; have hN1 := (HN.out.newer hU0).piece hb1 hu1 hn1; clear hb1 hu1 hn1; clear HN hU0 hz k0 c0 f0 kB cB fB; have HN := Lib.hid hN1; clear hN1; have k0 := HN.out.rd.blk; have kB := HN.out.br.blk; have hU0 := Upd.refl (fun k => w.heap.size ≤ k) w; have hz := Nat.le_refl w.heap.size; have c0 := cells_of k0; (try simp only [rdC, nodeC, tokC, setC, zzT, zzO, zzS] at c0); have f0 := frees_of k0; have cB := cells_of kB; (try simp only [rdC, nodeC, tokC, setC, zzT, zzO, zzS] at cB); have fB := frees_of kB))
      first | go_end0 | go_ret
      exact ⟨rfl, by rw [HQ.out]; exact ⟨_, _, _, _, HN.out⟩⟩
  by_cases h46 : c = 46
  · rw [if_neg h94, if_neg h36, if_pos h46] at hq
    subst h46
    injection hq with hq
    clear h94 h36
    have HQ := Lib.hid hq.symm
    clear hq
    go_enter Try.func75, Try.ntmps75
    go_wp2_with (first
      | ((with_reducible refine stopSt 3 _ _ rfl ?_); unfold Stop; refine wpList_store_blk rfl 3 _ _ rfl _ _ rfl _ (by go_simp; first | done | exact rfl) _ _ _ k0 (zzB rfl) (by kernel_rfl) rfl (by simp only [spl, rdC, nodeC, tokC, setC, Value.cells, zzT, zzO, zzS, Array.toList]; exact rfl) ?_; intro w kn hUn hsn; have hN1 := (HN.out.newer hU0).put (st2 := { st with pos := next }) kn hUn rfl (HN.out.newer hU0).rd.done; clear kn hUn hsn; clear HN hU0 hz k0 c0 f0 kB cB fB; have HN := Lib.hid hN1; clear hN1; have k0 := HN.out.rd.blk; have kB := HN.out.br.blk; have hU0 := Upd.refl (fun k => w.heap.size ≤ k) w; have hz := Nat.le_refl w.heap.size; have c0 := cells_of k0; (try simp only [rdC, nodeC, tokC, setC, zzT, zzO, zzS] at c0); have f0 := frees_of k0; have cB := cells_of kB; (try simp only [rdC, nodeC, tokC, setC, zzT, zzO, zzS] at cB); have fB := frees_of kB)
      | (go_at_call 77; refine (node_any (HN.out.newer hU0).rd (HN.out.newer hU0).bse { op := 3 } (.slice none 0 0) (NatsAt.nil _ none 0) (fun g hg => by simp [Value.ownBlock] at hg) HNL.out).mono ?_; rintro e w ⟨rfl, hT⟩; obtain ⟨nv1, kvs1, Z1, hN1⟩ := (HN.out.newer hU0).to hT (fun k hk => by simp [Value.ownBlock] at hk); clear hT; clear HN hU0 hz k0 c0 f0 kB cB fB; have HN := Lib.hid hN1; clear hN1; have k0 := HN.out.rd.blk; have kB := HN.out.br.blk; have hU0 := Upd.refl (fun k => w.heap.size ≤ k) w; have hz := Nat.le_refl w.heap.size; have c0 := cells_of k0; (try simp only [rdC, nodeC, tokC, setC, zzT, zzO, zzS] at c0); have f0 := frees_of k0; have cB := cells_of kB; (try simp only [rdC, nodeC, tokC, setC, zzT, zzO, zzS] at cB); have fB := frees_of kB)
      | (go_at_call 76; refine (piece_any (HN.out.newer hU0).br (HN.out.newer hU0).bse _ _ _ HKL.out).mono ?_; rintro e w ⟨rfl, kv1, hb1, hu1, hn1⟩; have hN1 := (HN.out.newer hU0).piece hb1 hu1 hn1; clear hb1 hu1 hn1; clear HN hU0 hz k0 c0 f0 kB cB fB; have HN := Lib.hid hN1; clear hN1; have k0 := HN.out.rd.blk; have kB := HN.out.br.blk; have hU0 := Upd.refl (fun k => w.heap.size ≤ k) w; have hz := Nat.le_refl w.heap.size; have c0 := cells_of k0; (try simp only [rdC, nodeC, tokC, setC, zzT, zzO, zzS] at c0); have f0 := frees_of k0; have cB := cells_of kB; (try simp only [rdC, nodeC, tokC, setC, zzT, zzO, zzS] at cB); have fB := frees_of kB))
    first | go_end0 | go_ret
    exact ⟨rfl, by rw [HQ.out]; exact ⟨_, _, _, _, HN.out⟩⟩
  by_cases h60 : c = 60
  · rw [if_neg h94, if_neg h36, if_neg h46, if_pos h60] at hq
    subst h60
    injection hq with hq
    clear h94 h36 h46
    have HQ := Lib.hid hq.symm
    clear hq
    go_enter Try.func75, Try.ntmps75
    go_wp2_with (first
      | ((with_reducible refine stopSt 3 _ _ rfl ?_); unfold Stop; refine wpList_store_blk rfl 3 _ _ rfl _ _ rfl _ (by go_simp; first | done | exact rfl) _ _ _ k0 (zzB rfl) (by kernel_rfl) rfl (by simp only [spl, rdC, nodeC, tokC, setC, Value.cells, zzT, zzO, zzS, Array.toList]; exact rfl) ?_; intro w kn hUn hsn; have hN1 := (HN.out.newer hU0).put (st2 := { st with pos := next }) kn hUn rfl (HN.out.newer hU0).rd.done; clear kn hUn hsn; clear HN hU0 hz k0 c0 f0 kB cB fB; have HN := Lib.hid hN1; clear hN1; have k0 := HN.out.rd.blk; have kB := HN.out.br.blk; have hU0 := Upd.refl (fun k => w.heap.size ≤ k) w; have hz := Nat.le_refl w.heap.size; have c0 := cells_of k0; (try simp only [rdC, nodeC, tokC, setC, zzT, zzO, zzS] at c0); have f0 := frees_of k0; have cB := cells_of kB; (try simp only [rdC, nodeC, tokC, setC, zzT, zzO, zzS] at cB); have fB := frees_of kB)
      | (go_at_call 77; refine (node_any (HN.out.newer hU0).rd (HN.out.newer hU0).bse { op := 12 } (.slice none 0 0) (NatsAt.nil _ none 0) (fun g hg => by simp [Value.ownBlock] at hg) HNL.out).mono ?_; rintro e w ⟨rfl, hT⟩; obtain ⟨nv1, kvs1, Z1, hN1⟩ := (HN.out.newer hU0).to hT (fun k hk => by simp [Value.ownBlock] at hk); clear hT; clear HN hU0 hz k0 c0 f0 kB cB fB; have HN := Lib.hid hN1; clear hN1; have k0 := HN.out.rd.blk; have kB := HN.out.br.blk; have hU0 := Upd.refl (fun k => w.heap.size ≤ k) w; have hz := Nat.le_refl w.heap.size; have c0 := cells_of k0; (try simp only [rdC, nodeC, tokC, setC, zzT, zzO, zzS] at c0); have f0 := frees_of k0; have cB := cells_of kB; (try simp only [rdC, nodeC, tokC, setC, zzT, zzO, zzS] at cB); have fB := frees_of kB)
      | (go_at_call 76; refine (piece_any (HN.out.newer hU0).br (HN.out.newer hU0).bse _ _ _ HKL.out).mono ?_; rintro e w ⟨rfl, kv1, hb1, hu1, hn1⟩; have hN1 := (HN.out.newer hU0).piece hb1 hu1 hn1; clear hb1 hu1 hn1; clear HN hU0 hz k0 c0 f0 kB cB fB; have HN := Lib.hid hN1; clear hN1; have k0 := HN.out.rd.blk; have kB := HN.out.br.blk; have hU0 := Upd.refl (fun k => w.heap.size ≤ k) w; have hz := Nat.le_refl w.heap.size; have c0 := cells_of k0; (try simp only [rdC, nodeC, tokC, setC, zzT, zzO, zzS] at c0); have f0 := frees_of k0; have cB := cells_of kB; (try simp only [rdC, nodeC, tokC, setC, zzT, zzO, zzS] at cB); have fB := frees_of kB))
    first | go_end0 | go_ret
    exact ⟨rfl, by rw [HQ.out]; exact ⟨_, _, _, _, HN.out⟩⟩
  by_cases h62 : c = 62
  · rw [if_neg h94, if_neg h36, if_neg h46, if_neg h60, if_pos h62] at hq
    subst h62
    injection hq with hq
    clear h94 h36 h46 h60
    have HQ := Lib.hid hq.symm
    clear hq
    go_enter Try.func75, Try.ntmps75
    go_wp2_with (first
      | ((with_reducible refine stopSt 3 _ _ rfl ?_); unfold Stop; refine wpList_store_blk rfl 3 _ _ rfl _ _ rfl _ (by go_simp; first | done | exact rfl) _ _ _ k0 (zzB rfl) (by kernel_rfl) rfl (by simp only [spl, rdC, nodeC, tokC, setC, Value.cells, zzT, zzO, zzS, Array.toList]; exact rfl) ?_; intro w kn hUn hsn; have hN1 := (HN.out.newer hU0).put (st2 := { st with pos := next }) kn hUn rfl (HN.out.newer hU0).rd.done; clear kn hUn hsn; clear HN hU0 hz k0 c0 f0 kB cB fB; have HN := Lib.hid hN1; clear hN1; have k0 := HN.out.rd.blk; have kB := HN.out.br.blk; have hU0 := Upd.refl (fun k => w.heap.size ≤ k) w; have hz := Nat.le_refl w.heap.size; have c0 := cells_of k0; (try simp only [rdC, nodeC, tokC, setC, zzT, zzO, zzS] at c0); have f0 := frees_of k0; have cB := cells_of kB; (try simp only [rdC, nodeC, tokC, setC, zzT, zzO, zzS] at cB); have fB := frees_of kB)
      | (go_at_call 77; refine (node_any (HN.out.newer hU0).rd (HN.out.newer hU0).bse { op := 13 } (.slice none 0 0) (NatsAt.nil _ none 0) (fun g hg => by simp [Value.ownBlock] at hg) HNL.out).mono ?_; rintro e w ⟨rfl, hT⟩; obtain ⟨nv1, kvs1, Z1, hN1⟩ := (HN.out.newer hU0).to hT (fun k hk => by simp [Value.ownBlock] at hk); clear hT; clear HN hU0 hz k0 c0 f0 kB cB fB; have HN := Lib.hid hN1; clear hN1; have k0 := HN.out.rd.blk; have kB := HN.out.br.blk; have hU0 := Upd.refl (fun k => w.heap.size ≤ k) w; have hz := Nat.le_refl w.heap.size; have c0 := cells_of k0; (try simp only [rdC, nodeC, tokC, setC, zzT, zzO, zzS] at c0); have f0 := frees_of k0; have cB := cells_of kB; (try simp only [rdC, nodeC, tokC, setC, zzT, zzO, zzS] at cB); have fB := frees_of kB)
      | (go_at_call 76; refine (piece_any (HN.out.newer hU0).br (HN.out.newer hU0).bse _ _ _ HKL.out).mono ?_; rintro e w ⟨rfl, kv1, hb1, hu1, hn1⟩; have hN1 := (HN.out.newer hU0).piece hb1 hu1 hn1; clear hb1 hu1 hn1; clear HN hU0 hz k0 c0 f0 kB cB fB; have HN := Lib.hid hN1; clear hN1; have k0 := HN.out.rd.blk; have kB := HN.out.br.blk; have hU0 := Upd.refl (fun k => w.heap.size ≤ k) w; have hz := Nat.le_refl w.heap.size; have c0 := cells_of k0; (try simp only [rdC, nodeC, tokC, setC, zzT, zzO, zzS] at c0); have f0 := frees_of k0; have cB := cells_of kB; (try simp only [rdC, nodeC, tokC, setC, zzT, zzO, zzS] at cB); have fB := frees_of kB))
    first | go_end0 | go_ret
    exact ⟨rfl, by rw [HQ.out]; exact ⟨_, _, _, _, HN.out⟩⟩
  by_cases h126 : c = 126
  · rw [if_neg h94, if_neg h36, if_neg h46, if_neg h60, if_neg h62, if_pos h126] at hq
    subst h126
    injection hq with hq
    clear h94 h36 h46 h60 h62
    have HQ := Lib.hid hq.symm
    clear hq
    go_enter Try.func75, Try.ntmps75
    go_wp2_with (first
      | ((with_reducible refine stopSt 3 _ _ rfl ?_); unfold Stop; refine wpList_store_blk rfl 3 _ _ rfl _ _ rfl _ (by go_simp; first | done | exact rfl) _ _ _ k0 (zzB rfl) (by kernel_rfl) rfl (by simp only [spl, rdC, nodeC, tokC, setC, Value.cells, zzT, zzO, zzS, Array.toList]; exact rfl) ?_; intro w kn hUn hsn; have hN1 := (HN.out.newer hU0).put (st2 := { st with pos := next }) kn hUn rfl (HN.out.newer hU0).rd.done; clear kn hUn hsn; clear HN hU0 hz k0 c0 f0 kB cB fB; have HN := Lib.hid hN1; clear hN1; have k0 := HN.out.rd.blk; have kB := HN.out.br.blk; have hU0 := Upd.refl (fun k => w.heap.size ≤ k) w; have hz := Nat.le_refl w.heap.size; have c0 := cells_of k0; (try simp only [rdC, nodeC, tokC, setC, zzT, zzO, zzS] at c0); have f0 := frees_of k0; have cB := cells_of kB; (try simp only [rdC, nodeC, tokC, setC, zzT, zzO, zzS] at cB); have fB := frees_of kB)
      | (go_at_call 88; refine (last_any (HN.out.newer hU0).rd (HN.out.newer hU0).bse HNL.out).mono ?_; rintro e w ⟨rfl, hT⟩; obtain ⟨nv1, kvs1, Z1, hN1⟩ := (HN.out.newer hU0).to hT (fun k hk => hk.elim); clear hT; clear HN hU0 hz k0 c0 f0 kB cB fB; have HN := Lib.hid hN1; clear hN1; have k0 := HN.out.rd.blk; have kB := HN.out.br.blk; have hU0 := Upd.refl (fun k => w.heap.size ≤ k) w; have hz := Nat.le_refl w.heap.size; have c0 := cells_of k0; (try simp only [rdC, nodeC, tokC, setC, zzT, zzO, zzS] at c0); have f0 := frees_of k0; have cB := cells_of kB; (try simp only [rdC, nodeC, tokC, setC, zzT, zzO, zzS] at cB); have fB := frees_of kB)
      | (go_at_call 76; refine (piece_any (HN.out.newer hU0).br (HN.out.newer hU0).bse _ _ _ HKL.out).mono ?_; rintro e w ⟨rfl, kv1, hb1, hu1, hn1⟩; have hN1 := (HN.out.newer hU0).piece hb1 hu1 hn1; clear hb1 hu1 hn1; clear HN hU0 hz k0 c0 f0 kB cB fB; have HN := Lib.hid hN1; clear hN1; have k0 := HN.out.rd.blk; have kB := HN.out.br.blk; have hU0 := Upd.refl (fun k => w.heap.size ≤ k) w; have hz := Nat.le_refl w.heap.size; have c0 := cells_of k0; (try simp only [rdC, nodeC, tokC, setC, zzT, zzO, zzS] at c0); have f0 := frees_of k0; have cB := cells_of kB; (try simp only [rdC, nodeC, tokC, setC, zzT, zzO, zzS] at cB); have fB := frees_of kB))
    first | go_end0 | go_ret
    exact ⟨rfl, by rw [HQ.out]; exact ⟨_, _, _, _, HN.out⟩⟩
  by_cases h91 : c = 91
  · rw [if_neg h94, if_neg h36, if_neg h46, if_neg h60, if_neg h62, if_neg h126, if_pos h91] at hq
    subst h91
    injection hq with hq
    clear h94 h36 h46 h60 h62 h126
    have HQ := Lib.hid hq.symm
    clear hq
    have hco := fun (w : World) (n : Int) (hn : n = ((next - 1 : Nat) : Int)) (hr : RdAt w B rb s { st with pos := next } nv kvs Z) => collection_ret hr (by omega) (next - 1) n hn (by omega)
    obtain ⟨Q, hQ⟩ : ∃ Q, ({ st with pos := next } : RdD).collection s.data.toList (next - 1) = Q := ⟨_, rfl⟩
    obtain ⟨x, e1, s2⟩ := Q
    have HX := Lib.hid hQ
    have HCO := Lib.hid (fun w n hn hr => hco w n hn hr x e1 s2 hQ)
    have HNL2 : Hid (s2.nodes.length ≤ 401) := Lib.hid (by have := coll_nodes (st := { st with pos := next }) hQ; rw [this]; exact HNL.out)
    clear hco hQ
    by_cases he : 0 < e1
    · have HQ2 : Hid (q = { s2 with pos := e1 }.laid b { op := 4, set := x } true) := Lib.hid (by rw [HQ.out, HX.out]; simp only []; rw [if_pos he])
      have ge : (0 : Int) < (e1 : Int) := by omega
      clear HQ he
      go_enter Try.func75, Try.ntmps75
      go_wp2_with (first
        | ((with_reducible refine stopSt 3 _ _ rfl ?_); unfold Stop; refine wpList_store_blk rfl 3 _ _ rfl _ _ rfl _ (by go_simp; first | done | exact rfl) _ _ _ k0 (zzB rfl) (by kernel_rfl) rfl (by simp only [spl, rdC, nodeC, tokC, setC, Value.cells, zzT, zzO, zzS, Array.toList]; exact rfl) ?_; intro w kn hUn hsn; have hN1 := (HN.out.newer hU0).put (st2 := { st with pos := next }) kn hUn rfl (HN.out.newer hU0).rd.done; clear kn hUn hsn; clear HN hU0 hz k0 c0 f0 kB cB fB; have HN := Lib.hid hN1; clear hN1; have k0 := HN.out.rd.blk; have kB := HN.out.br.blk; have hU0 := Upd.refl (fun k => w.heap.size ≤ k) w; have hz := Nat.le_refl w.heap.size; have c0 := cells_of k0; (try simp only [rdC, nodeC, tokC, setC, zzT, zzO, zzS] at c0); have f0 := frees_of k0; have cB := cells_of kB; (try simp only [rdC, nodeC, tokC, setC, zzT, zzO, zzS] at cB); have fB := frees_of kB)
        | (go_at_call 89; refine (HCO.out _ _ (by omega) (HN.out.newer hU0).rd).mono ?_; rintro e w ⟨rfl, hR1, hu1⟩; clear HNL; have HNL := HNL2; have hN1 := (HN.out.newer hU0).set hR1 hu1; clear hR1 hu1; clear HN hU0 hz k0 c0 f0 kB cB fB; have HN := Lib.hid hN1; clear hN1; have k0 := HN.out.rd.blk; have kB := HN.out.br.blk; have hU0 := Upd.refl (fun k => w.heap.size ≤ k) w; have hz := Nat.le_refl w.heap.size; have c0 := cells_of k0; (try simp only [rdC, nodeC, tokC, setC, zzT, zzO, zzS] at c0); have f0 := frees_of k0; have cB := cells_of kB; (try simp only [rdC, nodeC, tokC, setC, zzT, zzO, zzS] at cB); have fB := frees_of kB)
        | ((with_reducible refine stopAl 61 rfl ?_); unfold Stop; refine wpList_alloc_blk rfl 61 rfl (.agg #[.int .u64 0, .int .u64 0, .int .u64 0, .int .u64 0]) (by kernel_rfl) #[.int .u64 0, .int .u64 0, .int .u64 0, .int .u64 0] rfl ?_; intro bS wn hbn kn hUn hsn; clear c0 f0 cB fB; have l0S := heap_lt k0; rw [hbn] at l0S; replace k0 := hUn.heap k0 (fun h => h); have lBS := heap_lt kB; rw [hbn] at lBS; replace kB := hUn.heap kB (fun h => h); have gS : w.heap.size ≤ bS := Nat.le_trans hU0.size (Nat.le_of_eq hbn); have kS := kn; replace hU0 := hU0.then hUn (fun _ _ h => h.elim); replace hz : w.heap.size ≤ wn.heap.size := (by omega); clear kn hUn hsn hbn; have cS := cells_of kS; (try simp only [rdC, nodeC, tokC, setC, zzT, zzO, zzS] at cS); have fS := frees_of kS; have c0 := cells_of k0; (try simp only [rdC, nodeC, tokC, setC, zzT, zzO, zzS] at c0); have f0 := frees_of k0; have cB := cells_of kB; (try simp only [rdC, nodeC, tokC, setC, zzT, zzO, zzS] at cB); have fB := frees_of kB)
        | ((with_reducible refine stopSt 61 _ _ rfl ?_); unfold Stop; refine wpList_store_blk rfl 61 _ _ rfl _ _ rfl _ (by go_simp; first | done | exact rfl) _ _ _ kS (zzB rfl) (by kernel_rfl) rfl (by simp only [spl, rdC, nodeC, tokC, setC, Value.cells, zzT, zzO, zzS, Array.toList]; exact rfl) ?_; intro wn kn hUn hsn; clear cS fS c0 f0 cB fB; replace k0 := hUn.heap k0 (by omega); replace kB := hUn.heap kB (by omega); replace kS := kn; replace hU0 := hU0.then hUn (fun i hi (e : i = _) => by first | exact e | exact absurd hi (by omega) | (subst e; first | assumption | (show _ ≤ _; omega)) | exact .inl e | exact .inr e | exact .inr (.inl e) | exact .inr (.inr e)); replace hz := Nat.le_trans hz (Nat.le_of_eq hsn.symm); clear kn hUn hsn; have cS := cells_of kS; (try simp only [rdC, nodeC, tokC, setC, zzT, zzO, zzS] at cS); have fS := frees_of kS; have c0 := cells_of k0; (try simp only [rdC, nodeC, tokC, setC, zzT, zzO, zzS] at c0); have f0 := frees_of k0; have cB := cells_of kB; (try simp only [rdC, nodeC, tokC, setC, zzT, zzO, zzS] at cB); have fB := frees_of kB)
        | ((with_reducible refine stopLd 61 _ rfl ?_); unfold Stop; refine wpList_load_row rfl 61 _ rfl _ rfl 61 _ (0, 0) _ kS Try.underlying61 rfl (by kernel_rfl) ?_)
        | ((with_reducible refine stopSt 3 _ _ rfl ?_); unfold Stop; refine wpList_store_blk rfl 3 _ _ rfl _ _ rfl _ (by go_simp; first | done | exact rfl) _ _ _ k0 (zzB rfl) (by kernel_rfl) rfl (by simp only [spl, rdC, nodeC, tokC, setC, Value.cells, zzT, zzO, zzS, Array.toList]; exact rfl) ?_; intro w kn hUn hsn; clear cS fS; replace kS := (hUn).heap kS (fun e => tok_rd (HN.out.newer hU0).rd kS (by decide) (by decide) (.inl e)); have hN1 := (HN.out.newer hU0).put (st2 := { s2 with pos := e1 }) kn hUn rfl (HN.out.newer hU0).rd.done; clear kn hUn hsn; clear HN hU0 hz k0 c0 f0 kB cB fB; have HN := Lib.hid hN1; clear hN1; have k0 := HN.out.rd.blk; have kB := HN.out.br.blk; have hU0 := Upd.refl (fun k => w.heap.size ≤ k) w; have hz := Nat.le_refl w.heap.size; have c0 := cells_of k0; (try simp only [rdC, nodeC, tokC, setC, zzT, zzO, zzS] at c0); have f0 := frees_of k0; have cB := cells_of kB; (try simp only [rdC, nodeC, tokC, setC, zzT, zzO, zzS] at cB); have fB := frees_of kB; have cS := cells_of kS; (try simp only [rdC, nodeC, tokC, setC, zzT, zzO, zzS] at cS); have fS := frees_of kS)
        | (go_at_call 77; refine (node_any (HN.out.newer hU0).rd (HN.out.newer hU0).bse { op := 4, set := x } (.slice none 0 0) (NatsAt.nil _ none 0) (fun g hg => by simp [Value.ownBlock] at hg) HNL.out).mono ?_; rintro e w ⟨rfl, hT⟩; obtain ⟨nv1, kvs1, Z1, hN1⟩ := (HN.out.newer hU0).to hT (fun k hk => by simp [Value.ownBlock] at hk); clear hT; clear HN hU0 hz k0 c0 f0 kB cB fB; have HN := Lib.hid hN1; clear hN1; have k0 := HN.out.rd.blk; have kB := HN.out.br.blk; have hU0 := Upd.refl (fun k => w.heap.size ≤ k) w; have hz := Nat.le_refl w.heap.size; have c0 := cells_of k0; (try simp only [rdC, nodeC, tokC, setC, zzT, zzO, zzS] at c0); have f0 := frees_of k0; have cB := cells_of kB; (try simp only [rdC, nodeC, tokC, setC, zzT, zzO, zzS] at cB); have fB := frees_of kB)
        | (go_at_call 76; refine (piece_any (HN.out.newer hU0).br (HN.out.newer hU0).bse _ _ _ HKL.out).mono ?_; rintro e w ⟨rfl, kv1, hb1, hu1, hn1⟩; have hN1 := (HN.out.newer hU0).piece hb1 hu1 hn1; clear hb1 hu1 hn1; clear HN hU0 hz k0 c0 f0 kB cB fB; have HN := Lib.hid hN1; clear hN1; have k0 := HN.out.rd.blk; have kB := HN.out.br.blk; have hU0 := Upd.refl (fun k => w.heap.size ≤ k) w; have hz := Nat.le_refl w.heap.size; have c0 := cells_of k0; (try simp only [rdC, nodeC, tokC, setC, zzT, zzO, zzS] at c0); have f0 := frees_of k0; have cB := cells_of kB; (try simp only [rdC, nodeC, tokC, setC, zzT, zzO, zzS] at cB); have fB := frees_of kB))
      first | go_end0 | go_ret
      exact ⟨rfl, by rw [HQ2.out]; exact ⟨_, _, _, _, HN.out⟩⟩
    · have HQ2 : Hid (q = s2.laid b { op := 2, c := 91 } true) := Lib.hid (by rw [HQ.out, HX.out]; simp only []; rw [if_neg he])
      have ge : ¬ (0 : Int) < (e1 : Int) := by omega
      clear HQ he
      go_enter Try.func75, Try.ntmps75
      go_wp2_with (first
        | ((with_reducible refine stopSt 3 _ _ rfl ?_); unfold Stop; refine wpList_store_blk rfl 3 _ _ rfl _ _ rfl _ (by go_simp; first | done | exact rfl) _ _ _ k0 (zzB rfl) (by kernel_rfl) rfl (by simp only [spl, rdC, nodeC, tokC, setC, Value.cells, zzT, zzO, zzS, Array.toList]; exact rfl) ?_; intro w kn hUn hsn; have hN1 := (HN.out.newer hU0).put (st2 := { st with pos := next }) kn hUn rfl (HN.out.newer hU0).rd.done; clear kn hUn hsn; clear HN hU0 hz k0 c0 f0 kB cB fB; have HN := Lib.hid hN1; clear hN1; have k0 := HN.out.rd.blk; have kB := HN.out.br.blk; have hU0 := Upd.refl (fun k => w.heap.size ≤ k) w; have hz := Nat.le_refl w.heap.size; have c0 := cells_of k0; (try simp only [rdC, nodeC, tokC, setC, zzT, zzO, zzS] at c0); have f0 := frees_of k0; have cB := cells_of kB; (try simp only [rdC, nodeC, tokC, setC, zzT, zzO, zzS] at cB); have fB := frees_of kB)
        | (go_at_call 89; refine (HCO.out _ _ (by omega) (HN.out.newer hU0).rd).mono ?_; rintro e w ⟨rfl, hR1, hu1⟩; clear HNL; have HNL := HNL2; have hN1 := (HN.out.newer hU0).set hR1 hu1; clear hR1 hu1; clear HN hU0 hz k0 c0 f0 kB cB fB; have HN := Lib.hid hN1; clear hN1; have k0 := HN.out.rd.blk; have kB := HN.out.br.blk; have hU0 := Upd.refl (fun k => w.heap.size ≤ k) w; have hz := Nat.le_refl w.heap.size; have c0 := cells_of k0; (try simp only [rdC, nodeC, tokC, setC, zzT, zzO, zzS] at c0); have f0 := frees_of k0; have cB := cells_of kB; (try simp only [rdC, nodeC, tokC, setC, zzT, zzO, zzS] at cB); have fB := frees_of kB)
        | ((with_reducible refine stopAl 61 rfl ?_); unfold Stop; refine wpList_alloc_blk rfl 61 rfl (.agg #[.int .u64 0, .int .u64 0, .int .u64 0, .int .u64 0]) (by kernel_rfl) #[.int .u64 0, .int .u64 0, .int .u64 0, .int .u64 0] rfl ?_; intro bS wn hbn kn hUn hsn; clear c0 f0 cB fB; have l0S := heap_lt k0; rw [hbn] at l0S; replace k0 := hUn.heap k0 (fun h => h); have lBS := heap_lt kB; rw [hbn] at lBS; replace kB := hUn.heap kB (fun h => h); have gS : w.heap.size ≤ bS := Nat.le_trans hU0.size (Nat.le_of_eq hbn); have kS := kn; replace hU0 := hU0.then hUn (fun _ _ h => h.elim); replace hz : w.heap.size ≤ wn.heap.size := (by omega); clear kn hUn hsn hbn; have cS := cells_of kS; (try simp only [rdC, nodeC, tokC, setC, zzT, zzO, zzS] at cS); have fS := frees_of kS; have c0 := cells_of k0; (try simp only [rdC, nodeC, tokC, setC, zzT, zzO, zzS] at c0); have f0 := frees_of k0; have cB := cells_of kB; (try simp only [rdC, nodeC, tokC, setC, zzT, zzO, zzS] at cB); have fB := frees_of kB)
        | ((with_reducible refine stopSt 61 _ _ rfl ?_); unfold Stop; refine wpList_store_blk rfl 61 _ _ rfl _ _ rfl _ (by go_simp; first | done | exact rfl) _ _ _ kS (zzB rfl) (by kernel_rfl) rfl (by simp only [spl, rdC, nodeC, tokC, setC, Value.cells, zzT, zzO, zzS, Array.toList]; exact rfl) ?_; intro wn kn hUn hsn; clear cS fS c0 f0 cB fB; replace k0 := hUn.heap k0 (by omega); replace kB := hUn.heap kB (by omega); replace kS := kn; replace hU0 := hU0.then hUn (fun i hi (e : i = _) => by first | exact e | exact absurd hi (by omega) | (subst e; first | assumption | (show _ ≤ _; omega)) | exact .inl e | exact .inr e | exact .inr (.inl e) | exact .inr (.inr e)); replace hz := Nat.le_trans hz (Nat.le_of_eq hsn.symm); clear kn hUn hsn; have cS := cells_of kS; (try simp only [rdC, nodeC, tokC, setC, zzT, zzO, zzS] at cS); have fS := frees_of kS; have c0 := cells_of k0; (try simp only [rdC, nodeC, tokC, setC, zzT, zzO, zzS] at c0); have f0 := frees_of k0; have cB := cells_of kB; (try simp only [rdC, nodeC, tokC, setC, zzT, zzO, zzS] at cB); have fB := frees_of kB)
        | ((with_reducible refine stopLd 61 _ rfl ?_); unfold Stop; refine wpList_load_row rfl 61 _ rfl _ rfl 61 _ (0, 0) _ kS Try.underlying61 rfl (by kernel_rfl) ?_)
        | ((with_reducible refine stopSt 3 _ _ rfl ?_); unfold Stop; refine wpList_store_blk rfl 3 _ _ rfl _ _ rfl _ (by go_simp; first | done | exact rfl) _ _ _ k0 (zzB rfl) (by kernel_rfl) rfl (by simp only [spl, rdC, nodeC, tokC, setC, Value.cells, zzT, zzO, zzS, Array.toList]; exact rfl) ?_; intro w kn hUn hsn; clear cS fS; replace kS := (hUn).heap kS (fun e => tok_rd (HN.out.newer hU0).rd kS (by decide) (by decide) (.inl e)); have hN1 := (HN.out.newer hU0).put (st2 := { s2 with pos := e1 }) kn hUn rfl (HN.out.newer hU0).rd.done; clear kn hUn hsn; clear HN hU0 hz k0 c0 f0 kB cB fB; have HN := Lib.hid hN1; clear hN1; have k0 := HN.out.rd.blk; have kB := HN.out.br.blk; have hU0 := Upd.refl (fun k => w.heap.size ≤ k) w; have hz := Nat.le_refl w.heap.size; have c0 := cells_of k0; (try simp only [rdC, nodeC, tokC, setC, zzT, zzO, zzS] at c0); have f0 := frees_of k0; have cB := cells_of kB; (try simp only [rdC, nodeC, tokC, setC, zzT, zzO, zzS] at cB); have fB := frees_of kB; have cS := cells_of kS; (try simp only [rdC, nodeC, tokC, setC, zzT, zzO, zzS] at cS); have fS := frees_of kS)
        | (go_at_call 77; refine (node_any (HN.out.newer hU0).rd (HN.out.newer hU0).bse { op := 2, c := 91 } (.slice none 0 0) (NatsAt.nil _ none 0) (fun g hg => by simp [Value.ownBlock] at hg) HNL.out).mono ?_; rintro e w ⟨rfl, hT⟩; obtain ⟨nv1, kvs1, Z1, hN1⟩ := (HN.out.newer hU0).to hT (fun k hk => by simp [Value.ownBlock] at hk); clear hT; clear HN hU0 hz k0 c0 f0 kB cB fB; have HN := Lib.hid hN1; clear hN1; have k0 := HN.out.rd.blk; have kB := HN.out.br.blk; have hU0 := Upd.refl (fun k => w.heap.size ≤ k) w; have hz := Nat.le_refl w.heap.size; have c0 := cells_of k0; (try simp only [rdC, nodeC, tokC, setC, zzT, zzO, zzS] at c0); have f0 := frees_of k0; have cB := cells_of kB; (try simp only [rdC, nodeC, tokC, setC, zzT, zzO, zzS] at cB); have fB := frees_of kB)
        | (go_at_call 76; refine (piece_any (HN.out.newer hU0).br (HN.out.newer hU0).bse _ _ _ HKL.out).mono ?_; rintro e w ⟨rfl, kv1, hb1, hu1, hn1⟩; have hN1 := (HN.out.newer hU0).piece hb1 hu1 hn1; clear hb1 hu1 hn1; clear HN hU0 hz k0 c0 f0 kB cB fB; have HN := Lib.hid hN1; clear hN1; have k0 := HN.out.rd.blk; have kB := HN.out.br.blk; have hU0 := Upd.refl (fun k => w.heap.size ≤ k) w; have hz := Nat.le_refl w.heap.size; have c0 := cells_of k0; (try simp only [rdC, nodeC, tokC, setC, zzT, zzO, zzS] at c0); have f0 := frees_of k0; have cB := cells_of kB; (try simp only [rdC, nodeC, tokC, setC, zzT, zzO, zzS] at cB); have fB := frees_of kB))
      first | go_end0 | go_ret
      exact ⟨rfl, by rw [HQ2.out]; exact ⟨_, _, _, _, HN.out⟩⟩
  by_cases h40 : c = 40
  · rw [if_neg h94, if_neg h36, if_neg h46, if_neg h60, if_neg h62, if_neg h126, if_neg h91, if_pos h40] at hq
    subst h40
    clear h94 h36 h46 h60 h62 h126 h91
    have HQ := Lib.hid hq
    clear hq
    go_enter Try.func75, Try.ntmps75
    go_wp2_with (first
      | ((with_reducible refine stopSt 3 _ _ rfl ?_); unfold Stop; refine wpList_store_blk rfl 3 _ _ rfl _ _ rfl _ (by go_simp; first | done | exact rfl) _ _ _ k0 (zzB rfl) (by kernel_rfl) rfl (by simp only [spl, rdC, nodeC, tokC, setC, Value.cells, zzT, zzO, zzS, Array.toList]; exact rfl) ?_; intro w kn hUn hsn; have hN1 := (HN.out.newer hU0).put (st2 := { st with pos := next }) kn hUn rfl (HN.out.newer hU0).rd.done; clear kn hUn hsn; clear HN hU0 hz k0 c0 f0 kB cB fB; have HN := Lib.hid hN1; clear hN1; have k0 := HN.out.rd.blk; have kB := HN.out.br.blk; have hU0 := Upd.refl (fun k => w.heap.size ≤ k) w; have hz := Nat.le_refl w.heap.size; have c0 := cells_of k0; (try simp only [rdC, nodeC, tokC, setC, zzT, zzO, zzS] at c0); have f0 := frees_of k0; have cB := cells_of kB; (try simp only [rdC, nodeC, tokC, setC, zzT, zzO, zzS] at cB); have fB := frees_of kB)
      | (go_at_call 90; refine (group_any (HN.out.newer hU0) rec HREC.out HRN.out (by omega) i HNL.out HKL.out q HQ.out).mono ?_; rintro e w ⟨rfl, hP⟩))
    first | go_end0 | go_ret
    exact ⟨rfl, hP⟩
  rw [if_neg h94, if_neg h36, if_neg h46, if_neg h60, if_neg h62, if_neg h126, if_neg h91, if_neg h40] at hq
  have g94 : (c == 94) = false := by simpa using h94
  have g36 : (c == 36) = false := by simpa using h36
  have g46 : (c == 46) = false := by simpa using h46
  have g60 : (c == 60) = false := by simpa using h60
  have g62 : (c == 62) = false := by simpa using h62
  have g126 : (c == 126) = false := by simpa using h126
  have g91 : (c == 91) = false := by simpa using h91
  have g40 : (c == 40) = false := by simpa using h40
  clear h94 h36 h46 h60 h62 h126 h91 h40
  injection hq with hq
  have HQ := Lib.hid hq.symm
  clear hq
  go_enter Try.func75, Try.ntmps75
  go_wp2_with (first
    | ((with_reducible refine stopSt 3 _ _ rfl ?_); unfold Stop; refine wpList_store_blk rfl 3 _ _ rfl _ _ rfl _ (by go_simp; first | done | exact rfl) _ _ _ k0 (zzB rfl) (by kernel_rfl) rfl (by simp only [spl, rdC, nodeC, tokC, setC, Value.cells, zzT, zzO, zzS, Array.toList]; exact rfl) ?_; intro w kn hUn hsn; have hN1 := (HN.out.newer hU0).put (st2 := { st with pos := next }) kn hUn rfl (HN.out.newer hU0).rd.done; clear kn hUn hsn; clear HN hU0 hz k0 c0 f0 kB cB fB; have HN := Lib.hid hN1; clear hN1; have k0 := HN.out.rd.blk; have kB := HN.out.br.blk; have hU0 := Upd.refl (fun k => w.heap.size ≤ k) w; have hz := Nat.le_refl w.heap.size; have c0 := cells_of k0; (try simp only [rdC, nodeC, tokC, setC, zzT, zzO, zzS] at c0); have f0 := frees_of k0; have cB := cells_of kB; (try simp only [rdC, nodeC, tokC, setC, zzT, zzO, zzS] at cB); have fB := frees_of kB)
    | (go_at_call 91; refine (many_any (HN.out.newer hU0) (by omega) c i next hnx HNL.out HKL.out HM.out).mono ?_; rintro e w ⟨rfl, hP⟩))
  first | go_end0 | go_ret
  exact ⟨rfl, by rw [HQ.out]; exact hP⟩
end Go.Proofs.Ytigbfgmgdfnhcaa
