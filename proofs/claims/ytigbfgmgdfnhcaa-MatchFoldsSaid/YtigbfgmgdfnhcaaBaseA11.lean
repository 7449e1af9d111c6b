/- Lemmas that the law's proof stands on, part 11: PatN. No condition. -/
import Derived.Test.YtigbfgmgdfnhcaaBaseA0
import Derived.Deep.CutBlock
import Derived.Test.YtigbfgmgdfnhcaaBaseA10
set_option linter.all false
set_option linter.unusedVariables false
set_option linter.unusedSimpArgs false
namespace Go.Proofs.Ytigbfgmgdfnhcaa
open Go.RowKit
theorem node_len {st : RdD} {n : NodeD} (h : st.nodes.length ≤ 401) : (st.node n).2.nodes.length ≤ 401 := by
  unfold RdD.node
  split
  · exact h
  · simp; omega
theorem BrAt.lastC {w : World} {B bb : Nat} {b : BrD} {kv : Value} (h : BrAt w B bb b kv) (hk : b.kids ≠ []) : ∃ g c cur m, kv = .slice (some ⟨g, 0, none⟩) (m + 1) c ∧ b.kids.length = m + 1 ∧ w.heap[g]? = some (.cells cur 3 (0, 0)) ∧ cur[m]? = some (.int .i64 ((b.kids.getLastD 0 : Nat) : Int)) := by
  obtain ⟨m, hm⟩ : ∃ m, b.kids.length = m + 1 := ⟨b.kids.length - 1, by have : b.kids.length ≠ 0 := fun e => hk (List.length_eq_zero_iff.1 e); omega⟩
  rcases h.own.2 with ⟨rfl, h0⟩ | ⟨g, cap, cur, rfl, _, hb, hnc, _, hsz, htk⟩
  · omega
  · refine ⟨g, cap, cur, m, by rw [hm], hm, hb, ?_⟩
    have e : (b.kids.map fun k => Value.int .i64 ((k : Nat) : Int))[m]? = some (.int .i64 ((b.kids.getLastD 0 : Nat) : Int)) := by
      rw [List.getElem?_map, List.getLastD_eq_getLast?, List.getLast?_eq_getElem?, hm]
      simp [hm]
    rw [← htk, List.getElem?_take_of_lt (by omega)] at e
    simpa using e
/-- The last piece put anew. -/
theorem BrAt.swap {w : World} {B bb g m : Nat} {b : BrD} {c : Nat} (h : BrAt w B bb b (.slice (some ⟨g, 0, none⟩) (m + 1) c)) (hm : b.kids.length = m + 1) (k : Nat) {w' : World} {cur' : Array Value} (hU : Upd (fun j => j = g) w w') {cur : Array Value} (hc : w.heap[g]? = some (.cells cur 3 (0, 0)))
    (hk : w'.heap[g]? = some (.cells cur' 3 (0, 0))) (e : cur' = cur.setIfInBounds m (.int .i64 (k : Nat))) : BrAt w' B bb ⟨b.kids.dropLast ++ [k], b.may⟩ (.slice (some ⟨g, 0, none⟩) (m + 1) c) := by
  have hne : bb ≠ g := fun e => h.kvne (by simp [Value.ownBlock, e])
  refine ⟨h.base, hU.heap h.blk hne, ?_⟩
  rcases h.own.2 with ⟨hnil, h0⟩ | ⟨g', cap, cur2, hv, hbg, hb, hnc, hcm, hsz, htk⟩
  · cases hnil
  · injection hv with e1 e2 e3
    injection e1 with e1
    injection e1 with e1
    subst e1 e3
    rw [hb] at hc
    injection hc with hc
    injection hc with hc
    subst hc e
    have hlen : (b.kids.dropLast ++ [k]).length = m + 1 := by simp [hm]
    simp only [hm] at hnc htk
    refine ⟨by simp, .inr ⟨g, c, _, by rw [hlen], hbg, hk, by rw [hlen]; exact hnc, hcm, by simpa using hsz, ?_⟩⟩
    rw [hlen]
    have hsz2 : cur2.size = c := by simpa using hsz
    have e4 : (b.kids.map fun k => Value.int .i64 ((k : Nat) : Int)) = (b.kids.dropLast.map fun k => Value.int .i64 ((k : Nat) : Int)) ++ [Value.int .i64 ((b.kids.getLast (by intro e; rw [e] at hm; simp at hm) : Nat) : Int)] := by
      rw [← List.map_singleton (f := fun k => Value.int .i64 ((k : Nat) : Int)), ← List.map_append, List.dropLast_concat_getLast]
    rw [e4] at htk
    have hl2 : (b.kids.dropLast.map fun k => Value.int .i64 ((k : Nat) : Int)).length = m := by simp [hm]
    simp only [Nat.mul_one] at htk ⊢
    have htk2 : cur2.toList.take m = b.kids.dropLast.map fun k => Value.int .i64 ((k : Nat) : Int) := by
      have e5 := congrArg (List.take m) htk
      rw [List.take_take, Nat.min_eq_left (by omega), List.take_append_of_le_length (Nat.le_of_eq hl2.symm)] at e5
      rw [e5]
      exact List.take_of_length_le (Nat.le_of_eq hl2)
    rw [Array.toList_setIfInBounds, List.take_set, List.take_succ_eq_append_getElem (by simp; omega), htk2, List.map_append, List.set_append_right _ _ (by rw [hl2]; exact Nat.le_refl _), hl2]
    simp
theorem bracesB_kids {l : List UInt8} {lz : Bool} {lo mx : Int} {i k : Nat} {n : NodeD} (h : bracesB l lz lo mx i = some (n, k)) : n.kids = [] := by
  unfold bracesB at h
  simp only [] at h
  generalize (if i < l.length ∧ bl l i = 92 then i + 1 else i) = j at h
  split at h
  · cases h
  · simp only [Option.some.injEq, Prod.mk.injEq] at h
    rw [← h.1]
theorem bracesF_kids {l : List UInt8} {i k : Nat} {n : NodeD} (h : bracesF l i = some (n, k)) : n.kids = [] := by
  have hA : ∀ lz j, bracesA l lz j = some (n, k) → n.kids = [] := by
    intro lz j h
    unfold bracesA at h
    simp only [] at h
    split at h
    · cases h
    · split at h
      · split at h
        · cases h
        · exact bracesB_kids h
      · exact bracesB_kids h
  unfold bracesF at h
  split at h
  · exact hA _ _ h
  · exact hA _ _ h
def signMin (c : Int) : Int := if c = 43 then 1 else 0
def signMax (c : Int) : Int := if c = 61 ∨ c = 63 then 1 else -1
set_option maxRecDepth 100000 in
set_option maxHeartbeats 8000000 in
theorem many_any {W : World} {B rb bb : Nat} {s : ByteArray} {nv0 kv0 : Value} {Z0 : Nat → Prop} {st : RdD} {b : BrD} {nv : Value} {kvs : List Value} {kv : Value} {Z : Nat → Prop} {w : World} (h : Now W B rb bb s nv0 kv0 Z0 st b nv kvs kv Z w)
    (hs : s.size ≤ 1000) (sign : Int) (i next : Nat) (hnx : next ≤ 1000) (hl : st.nodes.length ≤ 401) (hkl : b.kids.length ≤ 1000) (hmay : b.may = true → b.kids ≠ []) :
    Calls Try.prog 91 #[.pointer (some ⟨rb, 0, none⟩), .pointer (some ⟨bb, 0, none⟩), .int .u8 sign, .int .i64 i, .int .i64 next] w (DonePost W B rb bb s nv0 kv0 Z0 (st.many s.data.toList b sign i next)) := by
  obtain ⟨ka, kc, rfl⟩ := h.br.form
  have HN := Lib.hid h
  have HNL := Lib.hid hl
  have HKL := Lib.hid hkl
  have HM := Lib.hid hmay
  have k0 := h.rd.blk
  have kB := h.br.blk
  have hU0 := Upd.refl (fun k => w.heap.size ≤ k) w
  have hz := Nat.le_refl w.heap.size
  clear h hmay
  have c0 := cells_of k0; (try simp only [rdC, nodeC, tokC, setC, zzT, zzO, zzS] at c0); have f0 := frees_of k0; have cB := cells_of kB; (try simp only [rdC, nodeC, tokC, setC, zzT, zzO, zzS] at cB); have fB := frees_of kB
  go_enter Try.func91, Try.ntmps91
  go_upto_block 0 with (first
    | ((with_reducible refine stopAl 113 rfl ?_); unfold Stop; refine wpList_alloc_blk rfl 113 rfl (.agg #[.int .u8 0, .int .u8 0, .int .u64 0, .int .u64 0, .int .u64 0, .int .u64 0, .int .i64 0, .int .i64 0, .bool false, .int .i64 0, .slice none 0 0]) (by kernel_rfl) #[.int .u8 0, .int .u8 0, .int .u64 0, .int .u64 0, .int .u64 0, .int .u64 0, .int .i64 0, .int .i64 0, .bool false, .int .i64 0, .slice none 0 0] rfl ?_; intro bN wn hbn kn hUn hsn; clear c0 f0 cB fB; have l0N := heap_lt k0; rw [hbn] at l0N; replace k0 := hUn.heap k0 (fun h => h); have lBN := heap_lt kB; rw [hbn] at lBN; replace kB := hUn.heap kB (fun h => h); have gN : w.heap.size ≤ bN := Nat.le_trans hU0.size (Nat.le_of_eq hbn); have kN := kn; replace hU0 := hU0.then hUn (fun _ _ h => h.elim); replace hz : w.heap.size ≤ wn.heap.size := (by omega); clear kn hUn hsn hbn; have cN := cells_of kN; (try simp only [rdC, nodeC, tokC, setC, zzT, zzO, zzS] at cN); have fN := frees_of kN; have c0 := cells_of k0; (try simp only [rdC, nodeC, tokC, setC, zzT, zzO, zzS] at c0); have f0 := frees_of k0; have cB := cells_of kB; (try simp only [rdC, nodeC, tokC, setC, zzT, zzO, zzS] at cB); have fB := frees_of kB)
    | ((with_reducible refine stopSt 113 _ _ rfl ?_); unfold Stop; refine wpList_store_blk rfl 113 _ _ rfl _ _ rfl _ (by go_simp; first | done | exact rfl) _ _ _ kN (zzB rfl) (by kernel_rfl) rfl (by simp only [spl, rdC, nodeC, tokC, setC, Value.cells, zzT, zzO, zzS, Array.toList]; exact rfl) ?_; intro wn kn hUn hsn; clear cN fN c0 f0 cB fB; replace k0 := hUn.heap k0 (by omega); replace kB := hUn.heap kB (by omega); replace kN := kn; replace hU0 := hU0.then hUn (fun i hi (e : i = _) => by first | exact e | exact absurd hi (by omega) | (subst e; first | assumption | (show _ ≤ _; omega)) | exact .inl e | exact .inr e | exact .inr (.inl e) | exact .inr (.inr e)); replace hz := Nat.le_trans hz (Nat.le_of_eq hsn.symm); clear kn hUn hsn; have cN := cells_of kN; (try simp only [rdC, nodeC, tokC, setC, zzT, zzO, zzS] at cN); have fN := frees_of kN; have c0 := cells_of k0; (try simp only [rdC, nodeC, tokC, setC, zzT, zzO, zzS] at c0); have f0 := frees_of k0; have cB := cells_of kB; (try simp only [rdC, nodeC, tokC, setC, zzT, zzO, zzS] at cB); have fB := frees_of kB))
  go_cut [20] (fun _ w' => w'.heap[rb]? = some (.cells (rdC s st nv) 96 (0, 0)) ∧ w'.heap[bb]? = some (.cells #[.slice ka b.kids.length kc, .bool b.may] 128 (0, 0)) ∧ w'.heap[bN]? = some (.cells #[.int .u8 7, .int .u8 0, .int .u64 0, .int .u64 0, .int .u64 0, .int .u64 0, .int .i64 (signMin sign), .int .i64 (signMax sign), .bool false, .int .i64 0, .slice none 0 0] 113 (0, 0)) ∧ Upd (fun k => w.heap.size ≤ k) w w' ∧ w.heap.size ≤ w'.heap.size)
  case first =>
    have fin : ∀ mn mx, signMin sign = mn → signMax sign = mx → ∀ wx : World, wx.heap[bN]? = some (.cells #[.int .u8 7, .int .u8 0, .int .u64 0, .int .u64 0, .int .u64 0, .int .u64 0, .int .i64 (mn), .int .i64 (mx), .bool false, .int .i64 0, .slice none 0 0] 113 (0, 0)) → wx.heap[bN]? = some (.cells #[.int .u8 7, .int .u8 0, .int .u64 0, .int .u64 0, .int .u64 0, .int .u64 0, .int .i64 (signMin sign), .int .i64 (signMax sign), .bool false, .int .i64 0, .slice none 0 0] 113 (0, 0)) := by
      intro mn mx h1 h2 wx h3; rw [h1, h2]; exact h3
    have FIN := Lib.hid fin
    clear fin
    by_cases h43 : sign = 43
    · subst h43
      go_wp2_with (first
        | ((with_reducible refine stopSt 3 _ _ rfl ?_); unfold Stop; refine wpList_store_blk rfl 3 _ _ rfl _ _ rfl _ (by go_simp; first | done | exact rfl) _ _ _ kN (zzB rfl) (by kernel_rfl) rfl (by simp only [spl, rdC, nodeC, tokC, setC, Value.cells, zzT, zzO, zzS, Array.toList]; exact rfl) ?_; intro wn kn hUn hsn; clear cN fN c0 f0 cB fB; replace k0 := hUn.heap k0 (by omega); replace kB := hUn.heap kB (by omega); replace kN := kn; replace hU0 := hU0.then hUn (fun i hi (e : i = _) => by first | exact e | exact absurd hi (by omega) | (subst e; first | assumption | (show _ ≤ _; omega)) | exact .inl e | exact .inr e | exact .inr (.inl e) | exact .inr (.inr e)); replace hz := Nat.le_trans hz (Nat.le_of_eq hsn.symm); clear kn hUn hsn; have cN := cells_of kN; (try simp only [rdC, nodeC, tokC, setC, zzT, zzO, zzS] at cN); have fN := frees_of kN; have c0 := cells_of k0; (try simp only [rdC, nodeC, tokC, setC, zzT, zzO, zzS] at c0); have f0 := frees_of k0; have cB := cells_of kB; (try simp only [rdC, nodeC, tokC, setC, zzT, zzO, zzS] at cB); have fB := frees_of kB))
      go_meet
      exact ⟨k0, kB, FIN.out 1 (-1) (by decide) (by decide) _ kN, hU0, hz⟩
    · have g43 : (sign == 43) = false := by simpa using h43
      by_cases h61 : sign = 61
      · subst h61
        go_wp2_with (first
          | ((with_reducible refine stopSt 3 _ _ rfl ?_); unfold Stop; refine wpList_store_blk rfl 3 _ _ rfl _ _ rfl _ (by go_simp; first | done | exact rfl) _ _ _ kN (zzB rfl) (by kernel_rfl) rfl (by simp only [spl, rdC, nodeC, tokC, setC, Value.cells, zzT, zzO, zzS, Array.toList]; exact rfl) ?_; intro wn kn hUn hsn; clear cN fN c0 f0 cB fB; replace k0 := hUn.heap k0 (by omega); replace kB := hUn.heap kB (by omega); replace kN := kn; replace hU0 := hU0.then hUn (fun i hi (e : i = _) => by first | exact e | exact absurd hi (by omega) | (subst e; first | assumption | (show _ ≤ _; omega)) | exact .inl e | exact .inr e | exact .inr (.inl e) | exact .inr (.inr e)); replace hz := Nat.le_trans hz (Nat.le_of_eq hsn.symm); clear kn hUn hsn; have cN := cells_of kN; (try simp only [rdC, nodeC, tokC, setC, zzT, zzO, zzS] at cN); have fN := frees_of kN; have c0 := cells_of k0; (try simp only [rdC, nodeC, tokC, setC, zzT, zzO, zzS] at c0); have f0 := frees_of k0; have cB := cells_of kB; (try simp only [rdC, nodeC, tokC, setC, zzT, zzO, zzS] at cB); have fB := frees_of kB))
        go_meet
        exact ⟨k0, kB, FIN.out 0 1 (by decide) (by decide) _ kN, hU0, hz⟩
      · have g61 : (sign == 61) = false := by simpa using h61
        by_cases h63 : sign = 63
        · subst h63
          go_wp2_with (first
            | ((with_reducible refine stopSt 3 _ _ rfl ?_); unfold Stop; refine wpList_store_blk rfl 3 _ _ rfl _ _ rfl _ (by go_simp; first | done | exact rfl) _ _ _ kN (zzB rfl) (by kernel_rfl) rfl (by simp only [spl, rdC, nodeC, tokC, setC, Value.cells, zzT, zzO, zzS, Array.toList]; exact rfl) ?_; intro wn kn hUn hsn; clear cN fN c0 f0 cB fB; replace k0 := hUn.heap k0 (by omega); replace kB := hUn.heap kB (by omega); replace kN := kn; replace hU0 := hU0.then hUn (fun i hi (e : i = _) => by first | exact e | exact absurd hi (by omega) | (subst e; first | assumption | (show _ ≤ _; omega)) | exact .inl e | exact .inr e | exact .inr (.inl e) | exact .inr (.inr e)); replace hz := Nat.le_trans hz (Nat.le_of_eq hsn.symm); clear kn hUn hsn; have cN := cells_of kN; (try simp only [rdC, nodeC, tokC, setC, zzT, zzO, zzS] at cN); have fN := frees_of kN; have c0 := cells_of k0; (try simp only [rdC, nodeC, tokC, setC, zzT, zzO, zzS] at c0); have f0 := frees_of k0; have cB := cells_of kB; (try simp only [rdC, nodeC, tokC, setC, zzT, zzO, zzS] at cB); have fB := frees_of kB))
          go_meet
          exact ⟨k0, kB, FIN.out 0 1 (by decide) (by decide) _ kN, hU0, hz⟩
        · have g63 : (sign == 63) = false := by simpa using h63
          have F2 := Lib.hid (FIN.out 0 (-1) (by simp [signMin, h43]) (by simp [signMax, h61, h63]))
          clear h43 h61 h63 FIN
          go_wp2_with (first
            | ((with_reducible refine stopSt 3 _ _ rfl ?_); unfold Stop; refine wpList_store_blk rfl 3 _ _ rfl _ _ rfl _ (by go_simp; first | done | exact rfl) _ _ _ kN (zzB rfl) (by kernel_rfl) rfl (by simp only [spl, rdC, nodeC, tokC, setC, Value.cells, zzT, zzO, zzS, Array.toList]; exact rfl) ?_; intro wn kn hUn hsn; clear cN fN c0 f0 cB fB; replace k0 := hUn.heap k0 (by omega); replace kB := hUn.heap kB (by omega); replace kN := kn; replace hU0 := hU0.then hUn (fun i hi (e : i = _) => by first | exact e | exact absurd hi (by omega) | (subst e; first | assumption | (show _ ≤ _; omega)) | exact .inl e | exact .inr e | exact .inr (.inl e) | exact .inr (.inr e)); replace hz := Nat.le_trans hz (Nat.le_of_eq hsn.symm); clear kn hUn hsn; have cN := cells_of kN; (try simp only [rdC, nodeC, tokC, setC, zzT, zzO, zzS] at cN); have fN := frees_of kN; have c0 := cells_of k0; (try simp only [rdC, nodeC, tokC, setC, zzT, zzO, zzS] at c0); have f0 := frees_of k0; have cB := cells_of kB; (try simp only [rdC, nodeC, tokC, setC, zzT, zzO, zzS] at cB); have fB := frees_of kB))
          go_meet
          exact ⟨k0, kB, F2.out _ kN, hU0, hz⟩
  case rest =>
    clear k0 kB kN hU0 hz c0 f0 cB fB cN fN
    obtain ⟨k0, kB, kN, hU0, hz⟩ := hcut
    have c0 := cells_of k0; (try simp only [rdC, nodeC, tokC, setC, zzT, zzO, zzS] at c0); have f0 := frees_of k0; have cB := cells_of kB; (try simp only [rdC, nodeC, tokC, setC, zzT, zzO, zzS] at cB); have fB := frees_of kB; have cN := cells_of kN; (try simp only [rdC, nodeC, tokC, setC, zzT, zzO, zzS] at cN); have fN := frees_of kN
    cases hm : b.may
    · have HMM := Lib.hid hm
      simp only [hm] at cB
      have kB2 := kB
      clear hm
      by_cases h42 : sign = 42
      · have HE : Hid (st.many s.data.toList b sign i next = ({ (st.node { op := 2, c := sign }).2 with pos := next }, b.piece (st.node { op := 2, c := sign }).1 true)) := Lib.hid (by unfold RdD.many; rw [if_pos HMM.out, if_pos h42])
        have g42 : (sign == 42) = true := by simpa using h42
        clear h42
        go_wp2_with (first
          | (go_at_call 77; refine (node_any (HN.out.newer hU0).rd (HN.out.newer hU0).bse { op := 2, c := sign } (.slice none 0 0) (NatsAt.nil _ none 0) (fun g hg => by simp [Value.ownBlock] at hg) HNL.out).mono ?_; rintro e w ⟨rfl, hT⟩; obtain ⟨nv1, kvs1, Z1, hN1⟩ := (HN.out.newer hU0).to hT (fun k hk => by simp [Value.ownBlock] at hk); clear hT; clear HN hU0 hz k0 c0 f0 kB cB fB; have HN := Lib.hid hN1; clear hN1; have k0 := HN.out.rd.blk; have kB := HN.out.br.blk; have hU0 := Upd.refl (fun k => w.heap.size ≤ k) w; have hz := Nat.le_refl w.heap.size; have c0 := cells_of k0; (try simp only [rdC, nodeC, tokC, setC, zzT, zzO, zzS] at c0); have f0 := frees_of k0; have cB := cells_of kB; (try simp only [rdC, nodeC, tokC, setC, zzT, zzO, zzS] at cB); have fB := frees_of kB)
          | (go_at_call 76; refine (piece_any (HN.out.newer hU0).br (HN.out.newer hU0).bse _ _ _ HKL.out).mono ?_; rintro e w ⟨rfl, kv1, hb1, hu1, hn1⟩; have hN1 := (HN.out.newer hU0).piece hb1 hu1 hn1; clear hb1 hu1 hn1; clear HN hU0 hz k0 c0 f0 kB cB fB; have HN := Lib.hid hN1; clear hN1; have k0 := HN.out.rd.blk; have kB := HN.out.br.blk; have hU0 := Upd.refl (fun k => w.heap.size ≤ k) w; have hz := Nat.le_refl w.heap.size; have c0 := cells_of k0; (try simp only [rdC, nodeC, tokC, setC, zzT, zzO, zzS] at c0); have f0 := frees_of k0; have cB := cells_of kB; (try simp only [rdC, nodeC, tokC, setC, zzT, zzO, zzS] at cB); have fB := frees_of kB)
          | ((with_reducible refine stopSt 3 _ _ rfl ?_); unfold Stop; refine wpList_store_blk rfl 3 _ _ rfl _ _ rfl _ (by go_simp; first | done | exact rfl) _ _ _ k0 (zzB rfl) (by kernel_rfl) rfl (by simp only [spl, rdC, nodeC, tokC, setC, Value.cells, zzT, zzO, zzS, Array.toList]; exact rfl) ?_; intro w kn hUn hsn; have hN1 := (HN.out.newer hU0).put (st2 := { (st.node { op := 2, c := sign }).2 with pos := next }) kn hUn rfl (HN.out.newer hU0).rd.done; clear kn hUn hsn; clear HN hU0 hz k0 c0 f0 kB cB fB; have HN := Lib.hid hN1; clear hN1; have k0 := HN.out.rd.blk; have kB := HN.out.br.blk; have hU0 := Upd.refl (fun k => w.heap.size ≤ k) w; have hz := Nat.le_refl w.heap.size; have c0 := cells_of k0; (try simp only [rdC, nodeC, tokC, setC, zzT, zzO, zzS] at c0); have f0 := frees_of k0; have cB := cells_of kB; (try simp only [rdC, nodeC, tokC, setC, zzT, zzO, zzS] at cB); have fB := frees_of kB))
        first | go_end0 | go_ret
        exact ⟨rfl, by rw [HE.out]; exact ⟨_, _, _, _, HN.out⟩⟩
      · have HE : Hid (st.many s.data.toList b sign i next = (st.wrong 32 i, b)) := Lib.hid (by unfold RdD.many; rw [if_pos HMM.out, if_neg h42])
        have g42 : (sign == 42) = false := by simpa using h42
        clear h42
        go_wp2_with (first
          | (go_at_call 74; refine (wrong_any (HN.out.newer hU0).rd 32 i).mono ?_; rintro e w ⟨rfl, hR1, hu1⟩; have hN1 := (HN.out.newer hU0).set hR1 hu1; clear hR1 hu1; clear HN hU0 hz k0 c0 f0 kB cB fB; have HN := Lib.hid hN1; clear hN1; have k0 := HN.out.rd.blk; have kB := HN.out.br.blk; have hU0 := Upd.refl (fun k => w.heap.size ≤ k) w; have hz := Nat.le_refl w.heap.size; have c0 := cells_of k0; (try simp only [rdC, nodeC, tokC, setC, zzT, zzO, zzS] at c0); have f0 := frees_of k0; have cB := cells_of kB; (try simp only [rdC, nodeC, tokC, setC, zzT, zzO, zzS] at cB); have fB := frees_of kB))
        first | go_end0 | go_ret
        exact ⟨rfl, by rw [HE.out]; exact ⟨_, _, _, _, HN.out⟩⟩
    · have HMM := Lib.hid hm
      have HKNE := Lib.hid (HM.out hm)
      simp only [hm] at cB
      clear hm
      go_upto_if 46 with fail
      go_cut [4] (fun t w' => ∃ (n0 : NodeD) (nx : Nat), t = .int .i64 (nx : Nat) ∧ n0.kids = [] ∧ Hid (st.many s.data.toList b sign i next = st.bound b n0 nx) ∧ w'.heap[rb]? = some (.cells (rdC s st nv) 96 (0, 0)) ∧ w'.heap[bb]? = some (.cells #[.slice ka b.kids.length kc, .bool b.may] 128 (0, 0)) ∧ w'.heap[bN]? = some (.cells (nodeC n0 (.slice none 0 0)).toArray 113 (0, 0)) ∧ Upd (fun k => w.heap.size ≤ k) w w' ∧ w.heap.size ≤ w'.heap.size)
      case first =>
        by_cases h123 : sign = 123
        · have g123 : (sign == 123) = true := by simpa using h123
          have HBR := Lib.hid (fun (w : World) (k : w.heap[rb]? = some (.cells (rdC s st nv) 96 (0, 0))) => braces_any s rb next w hs hnx _ rfl k)
          cases hq : bracesF s.data.toList next with
          | none =>
            have HE : Hid (st.many s.data.toList b sign i next = (st.wrong 32 i, b)) := Lib.hid (by unfold RdD.many; rw [if_neg (by rw [HMM.out]; decide), if_pos h123, hq])
            rw [hq] at HBR
            clear h123 hq
            go_wp2_with (first
              | (go_at_call 106; refine (HBR.out _ k0).mono ?_; rintro e w2 ⟨⟨n1, rfl⟩, hqq⟩; clear cN fN c0 f0 cB fB; replace kN := (hqq).heap kN (fun h => h); replace k0 := (hqq).heap k0 (fun h => h); replace kB := (hqq).heap kB (fun h => h); replace hz := Nat.le_trans hz (hqq).size; replace hU0 := hU0.then hqq (fun _ _ h => h.elim); have cN := cells_of kN; (try simp only [rdC, nodeC, tokC, setC, zzT, zzO, zzS] at cN); have fN := frees_of kN; have c0 := cells_of k0; (try simp only [rdC, nodeC, tokC, setC, zzT, zzO, zzS] at c0); have f0 := frees_of k0; have cB := cells_of kB; (try simp only [rdC, nodeC, tokC, setC, zzT, zzO, zzS] at cB); have fB := frees_of kB; clear hqq)
              | ((with_reducible refine stopAl 113 rfl ?_); unfold Stop; refine wpList_alloc_blk rfl 113 rfl (.agg #[.int .u8 0, .int .u8 0, .int .u64 0, .int .u64 0, .int .u64 0, .int .u64 0, .int .i64 0, .int .i64 0, .bool false, .int .i64 0, .slice none 0 0]) (by kernel_rfl) #[.int .u8 0, .int .u8 0, .int .u64 0, .int .u64 0, .int .u64 0, .int .u64 0, .int .i64 0, .int .i64 0, .bool false, .int .i64 0, .slice none 0 0] rfl ?_; intro bM wn hbn kn hUn hsn; clear cN fN c0 f0 cB fB; have lNM := heap_lt kN; rw [hbn] at lNM; replace kN := hUn.heap kN (fun h => h); have l0M := heap_lt k0; rw [hbn] at l0M; replace k0 := hUn.heap k0 (fun h => h); have lBM := heap_lt kB; rw [hbn] at lBM; replace kB := hUn.heap kB (fun h => h); have gM : w.heap.size ≤ bM := Nat.le_trans hU0.size (Nat.le_of_eq hbn); have kM := kn; replace hU0 := hU0.then hUn (fun _ _ h => h.elim); replace hz : w.heap.size ≤ wn.heap.size := (by omega); clear kn hUn hsn hbn; have cM := cells_of kM; (try simp only [rdC, nodeC, tokC, setC, zzT, zzO, zzS] at cM); have fM := frees_of kM; have cN := cells_of kN; (try simp only [rdC, nodeC, tokC, setC, zzT, zzO, zzS] at cN); have fN := frees_of kN; have c0 := cells_of k0; (try simp only [rdC, nodeC, tokC, setC, zzT, zzO, zzS] at c0); have f0 := frees_of k0; have cB := cells_of kB; (try simp only [rdC, nodeC, tokC, setC, zzT, zzO, zzS] at cB); have fB := frees_of kB)
              | ((with_reducible refine stopSt 113 _ _ rfl ?_); unfold Stop; refine wpList_store_blk rfl 113 _ _ rfl _ _ rfl _ (by go_simp; first | done | exact rfl) _ _ _ kM (zzB rfl) (by kernel_rfl) rfl (by simp only [spl, rdC, nodeC, tokC, setC, Value.cells, zzT, zzO, zzS, Array.toList]; exact rfl) ?_; intro wn kn hUn hsn; clear cM fM cN fN c0 f0 cB fB; replace kN := hUn.heap kN (by omega); replace k0 := hUn.heap k0 (by omega); replace kB := hUn.heap kB (by omega); replace kM := kn; replace hU0 := hU0.then hUn (fun i hi (e : i = _) => by first | exact e | exact absurd hi (by omega) | (subst e; first | assumption | (show _ ≤ _; omega)) | exact .inl e | exact .inr e | exact .inr (.inl e) | exact .inr (.inr e)); replace hz := Nat.le_trans hz (Nat.le_of_eq hsn.symm); clear kn hUn hsn; have cM := cells_of kM; (try simp only [rdC, nodeC, tokC, setC, zzT, zzO, zzS] at cM); have fM := frees_of kM; have cN := cells_of kN; (try simp only [rdC, nodeC, tokC, setC, zzT, zzO, zzS] at cN); have fN := frees_of kN; have c0 := cells_of k0; (try simp only [rdC, nodeC, tokC, setC, zzT, zzO, zzS] at c0); have f0 := frees_of k0; have cB := cells_of kB; (try simp only [rdC, nodeC, tokC, setC, zzT, zzO, zzS] at cB); have fB := frees_of kB)
              | (go_at_call 74; refine (wrong_any (HN.out.newer hU0).rd 32 i).mono ?_; rintro e w ⟨rfl, hR1, hu1⟩; have hN1 := (HN.out.newer hU0).set hR1 hu1; clear hR1 hu1; clear HN hU0 hz k0 c0 f0 kB cB fB; have HN := Lib.hid hN1; clear hN1; have k0 := HN.out.rd.blk; have kB := HN.out.br.blk; have hU0 := Upd.refl (fun k => w.heap.size ≤ k) w; have hz := Nat.le_refl w.heap.size; have c0 := cells_of k0; (try simp only [rdC, nodeC, tokC, setC, zzT, zzO, zzS] at c0); have f0 := frees_of k0; have cB := cells_of kB; (try simp only [rdC, nodeC, tokC, setC, zzT, zzO, zzS] at cB); have fB := frees_of kB))
            first | go_end0 | go_ret
            exact ⟨rfl, by rw [HE.out]; exact ⟨_, _, _, _, HN.out⟩⟩
          | some q =>
            obtain ⟨n1, e1⟩ := q
            have HE : Hid (st.many s.data.toList b sign i next = st.bound b n1 e1) := Lib.hid (by unfold RdD.many; rw [if_neg (by rw [HMM.out]; decide), if_pos h123, hq])
            have hk1 := bracesF_kids hq
            rw [hq] at HBR
            clear h123 hq
            go_wp2_with (first
              | (go_at_call 106; refine (HBR.out _ k0).mono ?_; rintro e w2 ⟨rfl, hqq⟩; clear cN fN c0 f0 cB fB; replace kN := (hqq).heap kN (fun h => h); replace k0 := (hqq).heap k0 (fun h => h); replace kB := (hqq).heap kB (fun h => h); replace hz := Nat.le_trans hz (hqq).size; replace hU0 := hU0.then hqq (fun _ _ h => h.elim); have cN := cells_of kN; (try simp only [rdC, nodeC, tokC, setC, zzT, zzO, zzS] at cN); have fN := frees_of kN; have c0 := cells_of k0; (try simp only [rdC, nodeC, tokC, setC, zzT, zzO, zzS] at c0); have f0 := frees_of k0; have cB := cells_of kB; (try simp only [rdC, nodeC, tokC, setC, zzT, zzO, zzS] at cB); have fB := frees_of kB; clear hqq)
              | ((with_reducible refine stopAl 113 rfl ?_); unfold Stop; refine wpList_alloc_blk rfl 113 rfl (.agg #[.int .u8 0, .int .u8 0, .int .u64 0, .int .u64 0, .int .u64 0, .int .u64 0, .int .i64 0, .int .i64 0, .bool false, .int .i64 0, .slice none 0 0]) (by kernel_rfl) #[.int .u8 0, .int .u8 0, .int .u64 0, .int .u64 0, .int .u64 0, .int .u64 0, .int .i64 0, .int .i64 0, .bool false, .int .i64 0, .slice none 0 0] rfl ?_; intro bM wn hbn kn hUn hsn; clear cN fN c0 f0 cB fB; have lNM := heap_lt kN; rw [hbn] at lNM; replace kN := hUn.heap kN (fun h => h); have l0M := heap_lt k0; rw [hbn] at l0M; replace k0 := hUn.heap k0 (fun h => h); have lBM := heap_lt kB; rw [hbn] at lBM; replace kB := hUn.heap kB (fun h => h); have gM : w.heap.size ≤ bM := Nat.le_trans hU0.size (Nat.le_of_eq hbn); have kM := kn; replace hU0 := hU0.then hUn (fun _ _ h => h.elim); replace hz : w.heap.size ≤ wn.heap.size := (by omega); clear kn hUn hsn hbn; have cM := cells_of kM; (try simp only [rdC, nodeC, tokC, setC, zzT, zzO, zzS] at cM); have fM := frees_of kM; have cN := cells_of kN; (try simp only [rdC, nodeC, tokC, setC, zzT, zzO, zzS] at cN); have fN := frees_of kN; have c0 := cells_of k0; (try simp only [rdC, nodeC, tokC, setC, zzT, zzO, zzS] at c0); have f0 := frees_of k0; have cB := cells_of kB; (try simp only [rdC, nodeC, tokC, setC, zzT, zzO, zzS] at cB); have fB := frees_of kB)
              | ((with_reducible refine stopSt 113 _ _ rfl ?_); unfold Stop; refine wpList_store_blk rfl 113 _ _ rfl _ _ rfl _ (by go_simp; first | done | exact rfl) _ _ _ kM (zzB rfl) (by kernel_rfl) rfl (by simp only [spl, rdC, nodeC, tokC, setC, Value.cells, zzT, zzO, zzS, Array.toList]; exact rfl) ?_; intro wn kn hUn hsn; clear cM fM cN fN c0 f0 cB fB; replace kN := hUn.heap kN (by omega); replace k0 := hUn.heap k0 (by omega); replace kB := hUn.heap kB (by omega); replace kM := kn; replace hU0 := hU0.then hUn (fun i hi (e : i = _) => by first | exact e | exact absurd hi (by omega) | (subst e; first | assumption | (show _ ≤ _; omega)) | exact .inl e | exact .inr e | exact .inr (.inl e) | exact .inr (.inr e)); replace hz := Nat.le_trans hz (Nat.le_of_eq hsn.symm); clear kn hUn hsn; have cM := cells_of kM; (try simp only [rdC, nodeC, tokC, setC, zzT, zzO, zzS] at cM); have fM := frees_of kM; have cN := cells_of kN; (try simp only [rdC, nodeC, tokC, setC, zzT, zzO, zzS] at cN); have fN := frees_of kN; have c0 := cells_of k0; (try simp only [rdC, nodeC, tokC, setC, zzT, zzO, zzS] at c0); have f0 := frees_of k0; have cB := cells_of kB; (try simp only [rdC, nodeC, tokC, setC, zzT, zzO, zzS] at cB); have fB := frees_of kB)
              | ((with_reducible refine stopSt 113 _ _ rfl ?_); unfold Stop; refine wpList_store_blk rfl 113 _ _ rfl _ _ rfl _ (by go_simp; first | done | exact rfl) _ _ _ kN (zzB rfl) (by kernel_rfl) rfl (by simp only [spl, rdC, nodeC, tokC, setC, Value.cells, zzT, zzO, zzS, Array.toList]; exact rfl) ?_; intro wn kn hUn hsn; clear cN fN cM fM c0 f0 cB fB; replace kM := hUn.heap kM (by omega); replace k0 := hUn.heap k0 (by omega); replace kB := hUn.heap kB (by omega); replace kN := kn; replace hU0 := hU0.then hUn (fun i hi (e : i = _) => by first | exact e | exact absurd hi (by omega) | (subst e; first | assumption | (show _ ≤ _; omega)) | exact .inl e | exact .inr e | exact .inr (.inl e) | exact .inr (.inr e)); replace hz := Nat.le_trans hz (Nat.le_of_eq hsn.symm); clear kn hUn hsn; have cN := cells_of kN; (try simp only [rdC, nodeC, tokC, setC, zzT, zzO, zzS] at cN); have fN := frees_of kN; have cM := cells_of kM; (try simp only [rdC, nodeC, tokC, setC, zzT, zzO, zzS] at cM); have fM := frees_of kM; have c0 := cells_of k0; (try simp only [rdC, nodeC, tokC, setC, zzT, zzO, zzS] at c0); have f0 := frees_of k0; have cB := cells_of kB; (try simp only [rdC, nodeC, tokC, setC, zzT, zzO, zzS] at cB); have fB := frees_of kB)
              | ((with_reducible refine stopLd 113 _ rfl ?_); unfold Stop; refine wpList_load_row rfl 113 _ rfl _ rfl 113 _ (0, 0) _ kM Try.underlying113 rfl (by kernel_rfl) ?_))
            go_meet
            exact ⟨n1, e1, rfl, hk1, HE, k0, kB, kN, hU0, hz⟩
        · have g123 : (sign == 123) = false := by simpa using h123
          have HE : Hid (st.many s.data.toList b sign i next = st.bound b { op := 7, min := signMin sign, max := signMax sign } next) := Lib.hid (by unfold RdD.many; rw [if_neg (by rw [HMM.out]; decide), if_neg h123]; rfl)
          clear h123
          go_wp2
          go_meet
          exact ⟨_, next, rfl, rfl, HE, k0, kB, kN, hU0, hz⟩
      case rest =>
        clear k0 kB kN hU0 hz c0 f0 cB fB cN fN
        obtain ⟨n0, nx, rfl, hn0, HE, k0, kB, kN, hU0, hz⟩ := hcut
        have c0 := cells_of k0; (try simp only [rdC, nodeC, tokC, setC, zzT, zzO, zzS] at c0); have f0 := frees_of k0; have cB := cells_of kB; (try simp only [rdC, nodeC, tokC, setC, zzT, zzO, zzS] at cB); have fB := frees_of kB; have cN := cells_of kN; (try simp only [rdC, nodeC, tokC, setC, zzT, zzO, zzS] at cN); have fN := frees_of kN
        obtain ⟨g, c, cur, m, hkv, hlen, hcur, hlast⟩ := (HN.out.newer hU0).br.lastC HKNE.out
        rw [hlen] at hkv
        rw [hlen, hkv] at kB
        simp only [hlen, hkv] at cB
        rw [hlen, hkv] at HN
        have kG := hcur
        have cG := cells_of kG
        have fG := frees_of kG
        have bG := g
        have HLEN := Lib.hid hlen
        have hm1 : m ≤ 1000 := by have := HKL.out; omega
        have HK2 := Lib.hid hkv
        have hgl : g < w.heap.size := HN.out.lts.2.2.2.1 g rfl
        clear hkv hlen hcur HKL hkl
        go_upto_region 20 with (first
          | ((with_reducible refine stopBS 51 _ _ rfl ?_); unfold Stop; refine wpList_sliceLit_blk rfl 51 3 1 _ rfl Try.underlying51 #[.int .i64 ((b.kids.getLastD 0 : Nat) : Int)] (by go_simp; first | done | rfl | kernel_rfl) ?_; intro bK wn hbn kn hUn hsn; clear c0 f0 cB fB cN fN cG fG; have l0K := heap_lt k0; rw [hbn] at l0K; replace k0 := hUn.heap k0 (fun h => h); have lBK := heap_lt kB; rw [hbn] at lBK; replace kB := hUn.heap kB (fun h => h); have lNK := heap_lt kN; rw [hbn] at lNK; replace kN := hUn.heap kN (fun h => h); have lGK := heap_lt kG; rw [hbn] at lGK; replace kG := hUn.heap kG (fun h => h); have gK : w.heap.size ≤ bK := Nat.le_trans hU0.size (Nat.le_of_eq hbn); have kK := kn; replace hU0 := hU0.then hUn (fun _ _ h => h.elim); replace hz : w.heap.size ≤ wn.heap.size := (by omega); clear kn hUn hsn hbn; have cK := cells_of kK; (try simp only [rdC, nodeC, tokC, setC, zzT, zzO, zzS] at cK); have fK := frees_of kK; have c0 := cells_of k0; (try simp only [rdC, nodeC, tokC, setC, zzT, zzO, zzS] at c0); have f0 := frees_of k0; have cB := cells_of kB; (try simp only [rdC, nodeC, tokC, setC, zzT, zzO, zzS] at cB); have fB := frees_of kB; have cN := cells_of kN; (try simp only [rdC, nodeC, tokC, setC, zzT, zzO, zzS] at cN); have fN := frees_of kN; have cG := cells_of kG; (try simp only [rdC, nodeC, tokC, setC, zzT, zzO, zzS] at cG); have fG := frees_of kG)
          | ((with_reducible refine stopSt 51 _ _ rfl ?_); unfold Stop; refine wpList_store_blk rfl 51 _ _ rfl _ _ rfl _ (by go_simp; first | done | exact rfl) _ _ _ kN (zzB rfl) (by kernel_rfl) rfl (by simp only [spl, rdC, nodeC, tokC, setC, Value.cells, zzT, zzO, zzS, Array.toList]; exact rfl) ?_; intro wn kn hUn hsn; clear cN fN cK fK c0 f0 cB fB cG fG; replace kK := hUn.heap kK (by omega); replace k0 := hUn.heap k0 (by omega); replace kB := hUn.heap kB (by omega); replace kG := hUn.heap kG (by omega); replace kN := kn; replace hU0 := hU0.then hUn (fun i hi (e : i = _) => by first | exact e | exact absurd hi (by omega) | (subst e; first | assumption | (show _ ≤ _; omega)) | exact .inl e | exact .inr e | exact .inr (.inl e) | exact .inr (.inr e)); replace hz := Nat.le_trans hz (Nat.le_of_eq hsn.symm); clear kn hUn hsn; have cN := cells_of kN; (try simp only [rdC, nodeC, tokC, setC, zzT, zzO, zzS] at cN); have fN := frees_of kN; have cK := cells_of kK; (try simp only [rdC, nodeC, tokC, setC, zzT, zzO, zzS] at cK); have fK := frees_of kK; have c0 := cells_of k0; (try simp only [rdC, nodeC, tokC, setC, zzT, zzO, zzS] at c0); have f0 := frees_of k0; have cB := cells_of kB; (try simp only [rdC, nodeC, tokC, setC, zzT, zzO, zzS] at cB); have fB := frees_of kB; have cG := cells_of kG; (try simp only [rdC, nodeC, tokC, setC, zzT, zzO, zzS] at cG); have fG := frees_of kG))
        obtain ⟨n2, hn2, hn3⟩ : ∃ n2 : NodeD, n2 = { n0 with kids := [b.kids.getLastD 0] } ∧ n2.kids = [b.kids.getLastD 0] := ⟨_, rfl, rfl⟩
        have kN2 : wn.heap[bN]? = some (.cells (nodeC n2 (.slice (some ⟨bK, 0, none⟩) 1 1)).toArray 113 (0, 0)) := by rw [hn2]; exact kN
        have HNN := Lib.hid hn2
        have HW := HN.out.newer hU0.drew
        have HW2 := Lib.hid HW
        have hUd := hU0.drew
        obtain ⟨wd, hwd⟩ : ∃ wd, wn.drew = wd := ⟨_, rfl⟩
        have kNd : wd.heap[bN]? = some (.cells (nodeC n2 (.slice (some ⟨bK, 0, none⟩) 1 1)).toArray 113 (0, 0)) := by rw [← hwd]; exact kN2
        have kKd : wd.heap[bK]? = some (.cells #[.int .i64 ((b.kids.getLastD 0 : Nat) : Int)] 3 (0, 0)) := by rw [← hwd]; exact kK
        have kBd : wd.heap[bb]? = some (.cells #[.slice (some ⟨g, 0, none⟩) (m + 1) c, .bool b.may] 128 (0, 0)) := by rw [← hwd]; exact kB
        have kGd : wd.heap[g]? = some (.cells cur 3 (0, 0)) := by rw [← hwd]; exact kG
        rw [hwd] at HW hUd
        have HWd := Lib.hid HW
        have HUD := Lib.hid hUd
        have hnats : NatsAt wd (.slice (some ⟨bK, 0, none⟩) 1 1) n2.kids := by
          rw [hn3]
          exact ⟨_, 1, rfl, fun i hi => ⟨bK, 0, rfl, by obtain rfl : i = 0 := (by simpa using hi); exact cell_of kKd 0 rfl⟩⟩
        have HNT := Lib.hid hnats
        clear hn2 hn3 kN2 HW hUd hU0 hz k0 c0 f0 kB cB fB kN cN fN kK cK fK kG cG fG hnats HW2
        have hcm : m < cur.size := by
          rcases Nat.lt_or_ge m cur.size with h | h
          · exact h
          · rw [Array.getElem?_eq_none h] at hlast; cases hlast
        have hNl := HN.out.lts
        have hNu := HN.out.upd.size
        have HY : Hid (∀ k, k = bK → W.heap.size ≤ k ∧ (Value.slice (some ⟨g, 0, none⟩) (m + 1) c).ownBlock ≠ some k) := Lib.hid (fun k hk => ⟨by omega, fun e => by simp [Value.ownBlock] at e; omega⟩)
        have HA1 : Hid (¬ (bb = rb ∨ nv.ownBlock = some bb)) := Lib.hid (fun e => e.elim HN.out.bbne.1 HN.out.bbne.2.1)
        have HA2 : Hid (¬ (g = rb ∨ nv.ownBlock = some g)) := Lib.hid (fun e => e.elim (HN.out.kvne rfl).1 (HN.out.kvne rfl).2.2)
        have HA3 : Hid (¬ (bN = rb ∨ nv.ownBlock = some bN)) := Lib.hid (fun e => e.elim (fun e => by omega) (fun e => by have := hNl.2.2.1 bN e; omega))
        clear hNl hNu
        refine wp_region_seq (fun v => v.cell? ⟨bb, 0, none⟩ = some (.slice (some ⟨g, 0, none⟩) (m + 1) c) ∧ v.heap[bN]? = some (.cells (nodeC n2 (.slice (some ⟨bK, 0, none⟩) 1 1)).toArray 113 (0, 0))) (fun i => i != 9) [(0, true), (1, true), (2, true), (3, true), (4, true), (5, true), (6, true), (7, false), (8, true), (9, false)] (by exact rfl) (by kernel_rfl) (by intro c a d v w h; cases d <;> exact h) ?_
        rw [hwd]; have hS : wd.cell? ⟨bb, 0, none⟩ = some (.slice (some ⟨g, 0, none⟩) (m + 1) c) ∧ wd.heap[bN]? = some (.cells (nodeC n2 (.slice (some ⟨bK, 0, none⟩) 1 1)).toArray 113 (0, 0)) := ⟨cell_of kBd 0 rfl, kNd⟩
        iterate 6 (((apply seq_val2 rfl (by rfl); (focus (intro w' hS'; obtain ⟨s3, s4⟩ := hS'; go_simp; (first | done | exact rfl | (rw [if_pos (by omega)]; done)))); (focus exact hS))); (try simp only [Act.put, zzT, zzO, zzS]))
        (apply seq_val2 rfl (by rfl); (focus (intro w' hS'; obtain ⟨s3, s4⟩ := hS'; exact exec_load_blk 113 _ rfl bN rfl 113 _ (0, 0) _ s4 Try.underlying113 rfl (by kernel_rfl))); (focus exact hS))
        (try simp only [Act.put, zzT, zzO, zzS])
        apply seq_call2 (fun v w' => v = Value.int .i64 ((st.node n2).1 : Nat) ∧ RdTo wd B rb s nv Z (fun k => k = bK) (st.node n2).2 w') rfl (by rfl)
        focus (go_simp; (first | done | exact rfl | exact ⟨rfl, rfl⟩))
        focus (refine (node_any HWd.out.rd HWd.out.bse n2 (.slice (some ⟨bK, 0, none⟩) 1 1) HNT.out (fun g hg => by simp only [Value.ownBlock, Option.some.injEq] at hg; subst hg; exact ⟨_, _, kKd⟩) HNL.out).mono ?_; rintro e w' ⟨rfl, hT⟩; exact ⟨_, rfl, rfl, hT.mono (fun k hk => by left; simpa [Value.ownBlock] using hk.symm)⟩)
        rintro v w5 ⟨rfl, hT⟩; have hTU := RdTo.upd hT; obtain ⟨nv1, kvs1, Z1, hN1⟩ := HWd.out.to hT HY.out; have kB5 := hTU.heap kBd HA1.out; have kG5 := hTU.heap kGd HA2.out; have kN5 := hTU.heap kNd HA3.out; clear hS hT; have hS : w5.cell? ⟨bb, 0, none⟩ = some (.slice (some ⟨g, 0, none⟩) (m + 1) c) ∧ w5.heap[bN]? = some (.cells (nodeC n2 (.slice (some ⟨bK, 0, none⟩) 1 1)).toArray 113 (0, 0)) := ⟨cell_of kB5 0 rfl, kN5⟩; have x5 := cell_of kG5 m hlast; have y5 := free_of kG5 m; refine ⟨fun _ => hS, ?_⟩
        (try simp only [Act.put, zzT, zzO, zzS])
        (apply seq_val2 rfl (by rfl); (focus (intro w' hS'; obtain ⟨s3, s4⟩ := hS'; go_simp; (first | done | exact rfl | (rw [if_pos (by omega)]; done)))); (focus exact hS))
        (try simp only [Act.put, zzT, zzO, zzS])
        refine seq_loud2 rfl (fun K hK => ?_)
        go_simp; refine hK _ _ (fun e => by cases e) ?_; clear hK K
        (try simp only [Act.put, zzT, zzO, zzS])
        refine seq_nil ?_
        have kG6 := heap_set kG5 m (.int .i64 ((st.node n2).1 : Nat))
        have hU6 := (Upd.refl (fun k => k = g) w5).setCell (p := ⟨g, m, none⟩) (fun _ => rfl) (.int .i64 ((st.node n2).1 : Nat))
        have hbr := hN1.br.swap HLEN.out _ hU6 kG5 kG6 rfl
        have hN2 := hN1.piece hbr (hU6.mono (fun _ _ e => .inr (by rw [show _ = g from e]; rfl))) (fun g hg => .inl hg)
        clear hN1 hbr hU6 kG6 x5 y5 kG5 kB5 kN5 hS hTU
        clear HY HA1 HA2 HA3 HNT HUD HWd kGd kBd kKd kNd hwd HN
        obtain ⟨w, hw6⟩ : ∃ w, w5.setCell ⟨g, m, none⟩ (.int .i64 ((st.node n2).1 : Nat)) = w := ⟨_, rfl⟩
        rw [hw6] at hN2 ⊢
        clear hw6
        have HN := Lib.hid hN2
        clear hN2
        have k0 := HN.out.rd.blk
        have kB := HN.out.br.blk
        have hU0 := Upd.refl (fun k => w.heap.size ≤ k) w
        have hz := Nat.le_refl w.heap.size
        have c0 := cells_of k0; (try simp only [rdC, nodeC, tokC, setC, zzT, zzO, zzS] at c0); have f0 := frees_of k0; have cB := cells_of kB; (try simp only [rdC, nodeC, tokC, setC, zzT, zzO, zzS] at cB); have fB := frees_of kB
        go_wp2_with (first
          | ((with_reducible refine stopSt 4 _ _ rfl ?_); unfold Stop; refine wpList_store_blk rfl 4 _ _ rfl _ _ rfl _ (by go_simp; first | done | exact rfl) _ _ _ kB (zzB rfl) (by kernel_rfl) rfl (by simp only [spl, rdC, nodeC, tokC, setC, Value.cells, zzT, zzO, zzS, Array.toList]; exact rfl) ?_; intro w kn hUn hsn; have hN1 := (HN.out.newer hU0).may (m := false) kn hUn; clear kn hUn hsn; clear HN hU0 hz k0 c0 f0 kB cB fB; have HN := Lib.hid hN1; clear hN1; have k0 := HN.out.rd.blk; have kB := HN.out.br.blk; have hU0 := Upd.refl (fun k => w.heap.size ≤ k) w; have hz := Nat.le_refl w.heap.size; have c0 := cells_of k0; (try simp only [rdC, nodeC, tokC, setC, zzT, zzO, zzS] at c0); have f0 := frees_of k0; have cB := cells_of kB; (try simp only [rdC, nodeC, tokC, setC, zzT, zzO, zzS] at cB); have fB := frees_of kB)
          | ((with_reducible refine stopSt 3 _ _ rfl ?_); unfold Stop; refine wpList_store_blk rfl 3 _ _ rfl _ _ rfl _ (by go_simp; first | done | exact rfl) _ _ _ k0 (zzB rfl) (by kernel_rfl) rfl (by simp only [spl, rdC, nodeC, tokC, setC, Value.cells, zzT, zzO, zzS, Array.toList]; exact rfl) ?_; intro w kn hUn hsn; have hN1 := (HN.out.newer hU0).put (st2 := { (st.node n2).2 with pos := nx }) kn hUn rfl (HN.out.newer hU0).rd.done; clear kn hUn hsn; clear HN hU0 hz k0 c0 f0 kB cB fB; have HN := Lib.hid hN1; clear hN1; have k0 := HN.out.rd.blk; have kB := HN.out.br.blk; have hU0 := Upd.refl (fun k => w.heap.size ≤ k) w; have hz := Nat.le_refl w.heap.size; have c0 := cells_of k0; (try simp only [rdC, nodeC, tokC, setC, zzT, zzO, zzS] at c0); have f0 := frees_of k0; have cB := cells_of kB; (try simp only [rdC, nodeC, tokC, setC, zzT, zzO, zzS] at cB); have fB := frees_of kB))
        first | go_end0 | go_ret
        refine ⟨rfl, ?_⟩
        rw [HE.out]
        unfold RdD.bound
        rw [← HNN.out]
        exact ⟨_, _, _, _, HN.out⟩
end Go.Proofs.Ytigbfgmgdfnhcaa
