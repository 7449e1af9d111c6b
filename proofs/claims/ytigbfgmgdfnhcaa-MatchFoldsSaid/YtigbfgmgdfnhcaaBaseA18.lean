/- Lemmas that the law's proof stands on, part 18: Snd, SndA. No condition. -/
import Derived.Test.YtigbfgmgdfnhcaaBaseA0
import Derived.Test.YtigbfgmgdfnhcaaBaseA2
import Derived.Test.YtigbfgmgdfnhcaaBaseA17
set_option linter.all false
set_option linter.unusedVariables false
set_option linter.unusedSimpArgs false
namespace Go.Proofs.Ytigbfgmgdfnhcaa
open Go.RowKit
theorem nats_form {w : World} {v : Value} {ks : List Nat} (h : NatsAt w v ks) : ∃ a c, v = .slice a ks.length c := by
  obtain ⟨a, c, e, _⟩ := h
  exact ⟨a, c, e⟩
set_option maxRecDepth 100000 in
set_option maxHeartbeats 4000000 in
theorem kids_any (n : NodeD) (a : Option Addr) (c : Nat) (w : World) : Calls Try.prog 81 #[.agg (nodeC n (.slice a n.kids.length c)).toArray] w fun e w' => e = .returned (.bool (kidsB n)) ∧ Upd (fun _ => False) w w' := by
  have hU0 := Upd.refl (fun _ => False) w
  have hz := Nat.le_refl w.heap.size
  obtain ⟨op, cc, set, mn, mx, lz, nn, ks⟩ := n
  by_cases h7 : op = 7
  · subst h7
    go_enter Try.func81, Try.ntmps81
    go_wp2_with (first
      | ((with_reducible refine stopBx 113 _ rfl ?_); unfold Stop; refine wpList_box_blk rfl 113 _ rfl _ (by go_simp; first | done | exact rfl) (nodeC ⟨7, cc, set, mn, mx, lz, nn, ks⟩ (.slice a ks.length c)).toArray rfl ?_; intro bN wn hbn kn hUn hsn; have gN : w.heap.size ≤ bN := Nat.le_trans hU0.size (Nat.le_of_eq hbn); have kN := kn; replace hU0 := hU0.then hUn (fun _ _ h => h.elim); replace hz : w.heap.size ≤ wn.heap.size := (by omega); clear kn hUn hsn hbn; have cN := cells_of kN; (try simp only [rdC, nodeC, tokC, setC, zzT, zzO, zzS] at cN); have fN := frees_of kN))
    go_ret
    exact ⟨ret_bool (by rw [Bool.eq_iff_iff]; simp [kidsB]; try omega), hU0⟩
  · have g7 : (op == 7) = false := by simpa using h7
    by_cases h8 : op = 8
    · subst h8
      go_enter Try.func81, Try.ntmps81
      go_wp2_with (first
        | ((with_reducible refine stopBx 113 _ rfl ?_); unfold Stop; refine wpList_box_blk rfl 113 _ rfl _ (by go_simp; first | done | exact rfl) (nodeC ⟨8, cc, set, mn, mx, lz, nn, ks⟩ (.slice a ks.length c)).toArray rfl ?_; intro bN wn hbn kn hUn hsn; have gN : w.heap.size ≤ bN := Nat.le_trans hU0.size (Nat.le_of_eq hbn); have kN := kn; replace hU0 := hU0.then hUn (fun _ _ h => h.elim); replace hz : w.heap.size ≤ wn.heap.size := (by omega); clear kn hUn hsn hbn; have cN := cells_of kN; (try simp only [rdC, nodeC, tokC, setC, zzT, zzO, zzS] at cN); have fN := frees_of kN))
      go_ret
      exact ⟨ret_bool (by rw [Bool.eq_iff_iff]; simp [kidsB]; try omega), hU0⟩
    · have g8 : (op == 8) = false := by simpa using h8
      by_cases h5 : op = 5
      · subst h5
        go_enter Try.func81, Try.ntmps81
        go_wp2_with (first
          | ((with_reducible refine stopBx 113 _ rfl ?_); unfold Stop; refine wpList_box_blk rfl 113 _ rfl _ (by go_simp; first | done | exact rfl) (nodeC ⟨5, cc, set, mn, mx, lz, nn, ks⟩ (.slice a ks.length c)).toArray rfl ?_; intro bN wn hbn kn hUn hsn; have gN : w.heap.size ≤ bN := Nat.le_trans hU0.size (Nat.le_of_eq hbn); have kN := kn; replace hU0 := hU0.then hUn (fun _ _ h => h.elim); replace hz : w.heap.size ≤ wn.heap.size := (by omega); clear kn hUn hsn hbn; have cN := cells_of kN; (try simp only [rdC, nodeC, tokC, setC, zzT, zzO, zzS] at cN); have fN := frees_of kN))
        go_ret
        exact ⟨ret_bool (by rw [Bool.eq_iff_iff]; simp [kidsB]; try omega), hU0⟩
      · have g5 : (op == 5) = false := by simpa using h5
        by_cases h6 : op = 6
        · subst h6
          go_enter Try.func81, Try.ntmps81
          go_wp2_with (first
            | ((with_reducible refine stopBx 113 _ rfl ?_); unfold Stop; refine wpList_box_blk rfl 113 _ rfl _ (by go_simp; first | done | exact rfl) (nodeC ⟨6, cc, set, mn, mx, lz, nn, ks⟩ (.slice a ks.length c)).toArray rfl ?_; intro bN wn hbn kn hUn hsn; have gN : w.heap.size ≤ bN := Nat.le_trans hU0.size (Nat.le_of_eq hbn); have kN := kn; replace hU0 := hU0.then hUn (fun _ _ h => h.elim); replace hz : w.heap.size ≤ wn.heap.size := (by omega); clear kn hUn hsn hbn; have cN := cells_of kN; (try simp only [rdC, nodeC, tokC, setC, zzT, zzO, zzS] at cN); have fN := frees_of kN))
          go_ret
          exact ⟨ret_bool (by rw [Bool.eq_iff_iff]; simp [kidsB]; try omega), hU0⟩
        · have g6 : (op == 6) = false := by simpa using h6
          have HE : Hid (kidsB ⟨op, cc, set, mn, mx, lz, nn, ks⟩ = (ks.length == 0 && decide (1 ≤ op) && decide (op ≤ 15))) := Lib.hid (by
            unfold kidsB
            simp only [h7, h8, h5, h6, or_self, if_false]
            cases ks <;> rfl)
          obtain ⟨E, hE⟩ : ∃ E, kidsB ⟨op, cc, set, mn, mx, lz, nn, ks⟩ = E := ⟨_, rfl⟩
          rw [hE] at HE ⊢
          clear h5 h6 h7 h8 hE
          go_enter Try.func81, Try.ntmps81
          go_wp2_with (first
            | ((with_reducible refine stopBx 113 _ rfl ?_); unfold Stop; refine wpList_box_blk rfl 113 _ rfl _ (by go_simp; first | done | exact rfl) (nodeC ⟨op, cc, set, mn, mx, lz, nn, ks⟩ (.slice a ks.length c)).toArray rfl ?_; intro bN wn hbn kn hUn hsn; have gN : w.heap.size ≤ bN := Nat.le_trans hU0.size (Nat.le_of_eq hbn); have kN := kn; replace hU0 := hU0.then hUn (fun _ _ h => h.elim); replace hz : w.heap.size ≤ wn.heap.size := (by omega); clear kn hUn hsn hbn; have cN := cells_of kN; (try simp only [rdC, nodeC, tokC, setC, zzT, zzO, zzS] at cN); have fN := frees_of kN))
          all_goals
            go_ret
            refine ⟨ret_bool ?_, hU0⟩
            rw [HE.out, Bool.eq_iff_iff]
            simp_all <;> omega
end Go.Proofs.Ytigbfgmgdfnhcaa
namespace Go.Proofs.Ytigbfgmgdfnhcaa
open Go.RowKit
theorem nodeC_len (n : NodeD) (kv : Value) : (nodeC n kv).length = 11 := rfl
theorem nodesC_at : ∀ (ns : List NodeD) (kvs : List Value) (k : Nat) (h1 : k < ns.length) (h2 : k < kvs.length), ((nodesC ns kvs).drop (k * 11)).take 11 = nodeC ns[k] kvs[k]
  | [], _, k, h1, _ => by simp at h1
  | _ :: _, [], k, _, h2 => by simp at h2
  | n :: ns, v :: kvs, 0, _, _ => by
    simp only [nodesC, Nat.zero_mul, List.drop_zero, List.getElem_cons_zero]
    rw [List.take_append_of_le_length (by rw [nodeC_len]; exact Nat.le_refl _), List.take_of_length_le (by rw [nodeC_len]; exact Nat.le_refl _)]
  | n :: ns, v :: kvs, k + 1, h1, h2 => by
    have := nodesC_at ns kvs k (by simpa using h1) (by simpa using h2)
    simp only [nodesC, List.getElem_cons_succ]
    rw [← this, List.drop_append, nodeC_len, show (k + 1) * 11 - 11 = k * 11 by omega, List.drop_of_length_le (by rw [nodeC_len]; omega), List.nil_append]
theorem node_at {w : World} {nv : Value} {kvs : List Value} {ns : List NodeD} (h : PatAt w nv kvs ns) (k : Nat) (hk : k < ns.length) : ∃ g c cur kv, nv = .slice (some ⟨g, 0, none⟩) ns.length c ∧ w.heap[g]? = some (.cells cur 113 (0, 0)) ∧
    cur.extract (k * 11) (k * 11 + 11) = (nodeC (ns.getD k .zero) kv).toArray ∧ NatsAt w kv (ns.getD k .zero).kids ∧ cur[k * 11]? = some (.int .u8 (ns.getD k .zero).op) ∧ kv ∈ kvs := by
  have hk2 : k < kvs.length := by rw [← h.len]; exact hk
  obtain ⟨h3, h4⟩ := h.kids k hk hk2
  have e0 : ns.getD k .zero = ns[k] := by simp [List.getD_eq_getElem?_getD, List.getElem?_eq_getElem hk]
  rcases h.own.2 with ⟨_, h0⟩ | ⟨g, cap, cur, rfl, _, hb, hnc, _, hsz, htk⟩
  · omega
  · have e1 : (cur.extract (k * 11) (k * 11 + 11)) = (nodeC (ns.getD k .zero) kvs[k]).toArray := by
      rw [e0, ← nodesC_at ns kvs k hk hk2, ← htk]
      apply Array.toList_inj.1
      rw [Array.toList_extract, List.extract_eq_take_drop]
      simp only [List.drop_take, List.take_take]
      congr 1
      omega
    refine ⟨g, cap, cur, kvs[k], rfl, hb, e1, by rw [e0]; exact h3, ?_, List.getElem_mem hk2⟩
    have e2 := congrArg (fun a : Array Value => a[0]?) e1
    simp only [nodeC, Array.getElem?_extract, List.getElem?_toArray, List.getElem?_cons_zero, Nat.add_zero] at e2
    split at e2
    · simpa using e2
    · cases e2
/-- Nodes that were asked for, in memory. -/
structure WkAt (w : World) (bW bS : Nat) (p : PatD) (nv : Value) (kvs : List Value) (seen : List Bool) : Prop where
  pat : PatAt w nv kvs p.nodes
  blk : w.heap[bW]? = some (.cells #[nv, .int .i64 p.root, .int .i64 p.groups, .int .u8 p.case, .slice (some ⟨bS, 0, none⟩) p.nodes.length p.nodes.length] 122 (0, 0))
  sn : w.heap[bS]? = some (.cells (seen.map Value.bool).toArray 4 (0, 0))
  slen : seen.length = p.nodes.length
  sep : ∀ v, v ∈ kvs → v.ownBlock ≠ some bS
theorem WkAt.newer {w w' : World} {bW bS : Nat} {p : PatD} {nv : Value} {kvs : List Value} {seen : List Bool} (h : WkAt w bW bS p nv kvs seen) (hu : Upd (fun k => w.heap.size ≤ k) w w') : WkAt w' bW bS p nv kvs seen :=
  ⟨h.pat.newer hu, hu.heap h.blk (by have := heap_lt h.blk; omega), hu.heap h.sn (by have := heap_lt h.sn; omega), h.slen, h.sep⟩
theorem node_op {w : World} {g c : Nat} {cur : Array Value} {kvs : List Value} {ns : List NodeD} {m : Nat} (h : PatAt w (.slice (some ⟨g, 0, none⟩) m c) kvs ns) (kG : w.heap[g]? = some (.cells cur 113 (0, 0))) (j : Nat) (hj : j < ns.length) : cur[j * 11]? = some (.int .u8 (ns.getD j .zero).op) := by
  obtain ⟨g2, c2, cur2, kv, e, k2, _, _, h5, _⟩ := node_at h j hj
  injection e with e1 e2 e3
  injection e1 with e1
  injection e1 with e1
  subst e1
  rw [kG] at k2
  injection k2 with k2
  injection k2 with k2
  subst k2
  exact h5
theorem all_take {q : Nat → Bool} {ks : List Nat} {i : Nat} (h : i < ks.length) (hs : ∀ j, j ∈ ks.take i → q j = true) (hj : q ks[i] = true) : ∀ j, j ∈ ks.take (i + 1) → q j = true := by
  intro j hm
  rw [List.take_succ_eq_append_getElem h, List.mem_append] at hm
  rcases hm with hm | hm
  · exact hs j hm
  · simp only [List.mem_singleton] at hm; rw [hm]; exact hj
set_option maxRecDepth 100000 in
set_option maxHeartbeats 4000000 in
theorem single_any {w : World} {bW bS : Nat} {p : PatD} {nv : Value} {kvs : List Value} {seen : List Bool} (h : WkAt w bW bS p nv kvs seen) (k : Nat) (hk : k < p.nodes.length) (hkk : ∀ j, j ∈ (p.nodes.getD k .zero).kids → j < p.nodes.length) (hl : p.nodes.length ≤ 1000) (hkl : (p.nodes.getD k .zero).kids.length ≤ 1000000) :
    Calls Try.prog 82 #[.pointer (some ⟨bW, 0, none⟩), .int .i64 k] w fun e w' => e = .returned (.bool (singleB p.nodes k)) ∧ Upd (fun _ => False) w w' := by
  have hU0 := Upd.refl (fun _ => False) w
  have hz := Nat.le_refl w.heap.size
  have HW := Lib.hid h
  obtain ⟨g, c, cur, kv, rfl, kG, hG, hN, hop, _⟩ := node_at h.pat k hk
  obtain ⟨na, nc, rfl⟩ := nats_form hN
  have HG := Lib.hid hG
  have HN := Lib.hid hN
  have HKK := Lib.hid hkk
  have k0 := h.blk
  clear h hG hN hop hkk
  have c0 := cells_of k0; (try simp only [rdC, nodeC, tokC, setC, zzT, zzO, zzS] at c0); have f0 := frees_of k0; have cG := cells_of kG; (try simp only [rdC, nodeC, tokC, setC, zzT, zzO, zzS] at cG); have fG := frees_of kG
  obtain ⟨n, hn⟩ : ∃ n, p.nodes.getD k .zero = n := ⟨_, rfl⟩
  have HNN := Lib.hid hn
  rw [hn] at HG HN HKK hkl
  have HSB : Hid (singleB p.nodes k = if n.op = 2 ∨ n.op = 3 ∨ n.op = 4 ∨ n.op = 8 ∨ n.op = 9 ∨ n.op = 1 then true else if n.op = 5 then n.kids.all (fun j => (p.nodes.getD j .zero).op == 2) else false) := Lib.hid (by unfold singleB; rw [hn])
  obtain ⟨E, hE⟩ : ∃ E, singleB p.nodes k = E := ⟨_, rfl⟩
  rw [hE] at HSB ⊢
  clear hn hE
  go_enter Try.func82, Try.ntmps82
  go_upto_region 2 with (first
    | ((with_reducible refine stopLd 113 _ rfl ?_); unfold Stop; refine wpList_load_blk rfl 113 _ rfl g (k * 11) rfl _ (nodeC n (.slice na n.kids.length nc)).toArray _ (0, 0) _ kG Try.underlying113 rfl HG.out (by kernel_rfl) ?_)
    | ((with_reducible refine stopAl 113 rfl ?_); unfold Stop; refine wpList_alloc_blk rfl 113 rfl (.agg #[.int .u8 0, .int .u8 0, .int .u64 0, .int .u64 0, .int .u64 0, .int .u64 0, .int .i64 0, .int .i64 0, .bool false, .int .i64 0, .slice none 0 0]) (by kernel_rfl) #[.int .u8 0, .int .u8 0, .int .u64 0, .int .u64 0, .int .u64 0, .int .u64 0, .int .i64 0, .int .i64 0, .bool false, .int .i64 0, .slice none 0 0] rfl ?_; intro bN wn hbn kn hUn hsn; clear c0 f0 cG fG; have l0N := heap_lt k0; rw [hbn] at l0N; replace k0 := hUn.heap k0 (fun h => h); have lGN := heap_lt kG; rw [hbn] at lGN; replace kG := hUn.heap kG (fun h => h); have gN : w.heap.size ≤ bN := Nat.le_trans hU0.size (Nat.le_of_eq hbn); have kN := kn; replace hU0 := hU0.then hUn (fun _ _ h => h.elim); replace hz : w.heap.size ≤ wn.heap.size := (by omega); clear kn hUn hsn hbn; have cN := cells_of kN; (try simp only [rdC, nodeC, tokC, setC, zzT, zzO, zzS] at cN); have fN := frees_of kN; have c0 := cells_of k0; (try simp only [rdC, nodeC, tokC, setC, zzT, zzO, zzS] at c0); have f0 := frees_of k0; have cG := cells_of kG; (try simp only [rdC, nodeC, tokC, setC, zzT, zzO, zzS] at cG); have fG := frees_of kG)
    | ((with_reducible refine stopSt 113 _ _ rfl ?_); unfold Stop; refine wpList_store_blk rfl 113 _ _ rfl _ _ rfl _ (by go_simp; first | done | exact rfl) _ _ _ kN (zzB rfl) (by kernel_rfl) rfl (by simp only [spl, rdC, nodeC, tokC, setC, Value.cells, zzT, zzO, zzS, Array.toList]; exact rfl) ?_; intro wn kn hUn hsn; clear cN fN c0 f0 cG fG; replace k0 := hUn.heap k0 (by omega); replace kG := hUn.heap kG (by omega); replace kN := kn; replace hU0 := hU0.then hUn (fun i hi (e : i = _) => by first | exact e | exact absurd hi (by omega) | (subst e; first | assumption | (show _ ≤ _; omega)) | exact .inl e | exact .inr e | exact .inr (.inl e) | exact .inr (.inr e)); replace hz := Nat.le_trans hz (Nat.le_of_eq hsn.symm); clear kn hUn hsn; have cN := cells_of kN; (try simp only [rdC, nodeC, tokC, setC, zzT, zzO, zzS] at cN); have fN := frees_of kN; have c0 := cells_of k0; (try simp only [rdC, nodeC, tokC, setC, zzT, zzO, zzS] at c0); have f0 := frees_of k0; have cG := cells_of kG; (try simp only [rdC, nodeC, tokC, setC, zzT, zzO, zzS] at cG); have fG := frees_of kG))
  by_cases h2 : n.op = 2
  · have HE : Hid (E = true) := Lib.hid (by rw [HSB.out, if_pos (by simp [h2])])
    have g2 : (n.op == 2) = true := by simpa using h2
    clear h2
    go_wp2
    go_ret
    exact ⟨ret_bool HE.out.symm, hU0⟩
  by_cases h3 : n.op = 3
  · have HE : Hid (E = true) := Lib.hid (by rw [HSB.out, if_pos (by simp [h3])])
    have g2 : (n.op == 2) = false := by simpa using h2
    have g3 : (n.op == 3) = true := by simpa using h3
    clear h2 h3
    go_wp2
    go_ret
    exact ⟨ret_bool HE.out.symm, hU0⟩
  by_cases h4 : n.op = 4
  · have HE : Hid (E = true) := Lib.hid (by rw [HSB.out, if_pos (by simp [h4])])
    have g2 : (n.op == 2) = false := by simpa using h2
    have g3 : (n.op == 3) = false := by simpa using h3
    have g4 : (n.op == 4) = true := by simpa using h4
    clear h2 h3 h4
    go_wp2
    go_ret
    exact ⟨ret_bool HE.out.symm, hU0⟩
  by_cases h8 : n.op = 8
  · have HE : Hid (E = true) := Lib.hid (by rw [HSB.out, if_pos (by simp [h8])])
    have g2 : (n.op == 2) = false := by simpa using h2
    have g3 : (n.op == 3) = false := by simpa using h3
    have g4 : (n.op == 4) = false := by simpa using h4
    have g8 : (n.op == 8) = true := by simpa using h8
    clear h2 h3 h4 h8
    go_wp2
    go_ret
    exact ⟨ret_bool HE.out.symm, hU0⟩
  by_cases h9 : n.op = 9
  · have HE : Hid (E = true) := Lib.hid (by rw [HSB.out, if_pos (by simp [h9])])
    have g2 : (n.op == 2) = false := by simpa using h2
    have g3 : (n.op == 3) = false := by simpa using h3
    have g4 : (n.op == 4) = false := by simpa using h4
    have g8 : (n.op == 8) = false := by simpa using h8
    have g9 : (n.op == 9) = true := by simpa using h9
    clear h2 h3 h4 h8 h9
    go_wp2
    go_ret
    exact ⟨ret_bool HE.out.symm, hU0⟩
  by_cases h1 : n.op = 1
  · have HE : Hid (E = true) := Lib.hid (by rw [HSB.out, if_pos (by simp [h1])])
    have g2 : (n.op == 2) = false := by simpa using h2
    have g3 : (n.op == 3) = false := by simpa using h3
    have g4 : (n.op == 4) = false := by simpa using h4
    have g8 : (n.op == 8) = false := by simpa using h8
    have g9 : (n.op == 9) = false := by simpa using h9
    have g1 : (n.op == 1) = true := by simpa using h1
    clear h2 h3 h4 h8 h9 h1
    go_wp2
    go_ret
    exact ⟨ret_bool HE.out.symm, hU0⟩
  have g2 : (n.op == 2) = false := by simpa using h2
  have g3 : (n.op == 3) = false := by simpa using h3
  have g4 : (n.op == 4) = false := by simpa using h4
  have g8 : (n.op == 8) = false := by simpa using h8
  have g9 : (n.op == 9) = false := by simpa using h9
  have g1 : (n.op == 1) = false := by simpa using h1
  rw [if_neg (by simp [h2, h3, h4, h8, h9, h1])] at HSB
  clear h2 h3 h4 h8 h9 h1
  by_cases h5 : n.op = 5
  · rw [if_pos h5] at HSB
    have g5 : (n.op == 5) = true := by simpa using h5
    clear h5
    go_wp2
    clear c0 f0 cG fG cN fN
    go_loopg [6] n.kids.length (fun gk iv wr => ∃ i : Nat, iv = .int .i64 (i : Nat) ∧ i + gk = n.kids.length ∧ Hid (∀ j, j ∈ n.kids.take i → ((p.nodes.getD j .zero).op == 2) = true) ∧ wr.heap[bW]? = some (.cells #[.slice (some ⟨g, 0, none⟩) p.nodes.length c, .int .i64 p.root, .int .i64 p.groups, .int .u8 p.case, .slice (some ⟨bS, 0, none⟩) p.nodes.length p.nodes.length] 122 (0, 0)) ∧
      wr.heap[g]? = some (.cells cur 113 (0, 0)) ∧ wr.heap[bN]? = some (.cells (nodeC n (.slice na n.kids.length nc)).toArray 113 (0, 0)) ∧ Upd (fun _ => False) w wr)
    case atStart => exact ⟨0, rfl, by omega, Lib.hid (fun j hj => by simp at hj), k0, kG, kN, hU0⟩
    case round =>
      clear k0 kG kN hU0 hz
      obtain ⟨i, rfl, hi, hT, k0, kG, kN, hU0⟩ := hrel
      have hz := hU0.size
      by_cases hlt : i < n.kids.length
      · obtain ⟨a2, c2, e, hh⟩ := HN.out.upd hU0 (fun _ _ h => h)
        injection e with e1 e2 e3
        obtain ⟨b, o, hb, hc0⟩ := hh i hlt
        subst e1
        subst hb
        clear hh e2 e3
        obtain ⟨j, hj⟩ : ∃ j, n.kids[i] = j := ⟨_, rfl⟩
        rw [hj] at hc0
        have hjl := HKK.out j (by rw [← hj]; exact List.getElem_mem hlt)
        have hop := node_op (HW.out.newer (hU0.mono (fun _ _ h => h.elim))).pat kG j hjl
        have cj := cell_of kG (j * 11) hop
        have cN10 := cell_of kN 10 (v := .slice (some ⟨b, o, none⟩) n.kids.length nc) rfl
        have cW0 := cell_of k0 0 (v := .slice (some ⟨g, 0, none⟩) p.nodes.length c) rfl
        have hil : (i : Int) < (n.kids.length : Int) := by omega
        have hjl2 : (j : Int) < (p.nodes.length : Int) := by omega
        have hi0 : (0 : Int) ≤ (i : Int) := by omega
        have hj0 : (0 : Int) ≤ (j : Int) := by omega
        have HJ := Lib.hid hj
        clear hj
        have hA := Lib.hid (all_take (q := fun j => (p.nodes.getD j .zero).op == 2) hlt hT.out)
        have hF : (((p.nodes.getD j .zero).op == 2) = false) → Hid (E = false) := fun h => Lib.hid (by
          rw [HSB.out, List.all_eq_false]
          exact ⟨j, by rw [← HJ.out]; exact List.getElem_mem hlt, by rw [h]; decide⟩)
        have HF := Lib.hid hF
        obtain ⟨oj, hoj⟩ : ∃ oj, (p.nodes.getD j .zero).op = oj := ⟨_, rfl⟩
        rw [hoj] at cj HF
        rw [HJ.out, hoj] at hA
        clear hF hop hT
        cases hq : (oj == 2)
        · have HE := HF.out hq
          have hq2 : (oj != 2) = true := by rw [bne, hq]; rfl
          go_wp2
          first | (refine wq_region_from_still ?_) | (refine wq_region_from (by kernel_rfl) (by kernel_rfl) ?_)
          repeat
            first
              | ((refine WQ_skip (by rfl) ?_); (try simp only [Act.put, zzT, zzO, zzS]))
              | (apply WQ_val (by rfl); (focus (intro w' hC; have s1 := hC.cell cj; have s2 := hC.cell cN10; have s3 := hC.cell cW0; have s4 := hC.cell hc0; go_simp; (first | done | exact rfl | (rw [if_pos (by omega)]; done) | (exact str_idx (by omega))))); (try simp only [Act.put, zzT, zzO, zzS]))
              | (apply WQ_call (by rfl); (focus (intro w' hC; go_simp; (first | done | exact rfl | exact ⟨rfl, rfl⟩))); (focus (intro w' hC; first | fail)); (try simp only [Act.put, zzT, zzO, zzS]))
          refine WQ_nil ?_
          intro wq hq
          have hqU := false_upd2 hq
          replace hU0 := hU0.then hqU (fun _ _ h => h)
          go_wp2
          go_ret
          exact ⟨ret_bool HE.out.symm, hU0⟩
        · have hq2 : (oj != 2) = false := by rw [bne, hq]; rfl
          have hA2 := Lib.hid (hA.out hq)
          clear hA HF
          go_wp2
          first | (refine wq_region_from_still ?_) | (refine wq_region_from (by kernel_rfl) (by kernel_rfl) ?_)
          repeat
            first
              | ((refine WQ_skip (by rfl) ?_); (try simp only [Act.put, zzT, zzO, zzS]))
              | (apply WQ_val (by rfl); (focus (intro w' hC; have s1 := hC.cell cj; have s2 := hC.cell cN10; have s3 := hC.cell cW0; have s4 := hC.cell hc0; go_simp; (first | done | exact rfl | (rw [if_pos (by omega)]; done) | (exact str_idx (by omega))))); (try simp only [Act.put, zzT, zzO, zzS]))
              | (apply WQ_call (by rfl); (focus (intro w' hC; go_simp; (first | done | exact rfl | exact ⟨rfl, rfl⟩))); (focus (intro w' hC; first | fail)); (try simp only [Act.put, zzT, zzO, zzS]))
          refine WQ_nil ?_
          intro wq hq
          have hqU := false_upd2 hq
          replace hU0 := hU0.then hqU (fun _ _ h => h)
          replace k0 := hqU.heap k0 (fun h => h)
          replace kG := hqU.heap kG (fun h => h)
          replace kN := hqU.heap kN (fun h => h)
          go_wp2
          go_roundg (gk - 1)
          case measure => omega
          case rel => exact ⟨i + 1, by go_num, by omega, hA2, k0, kG, kN, hU0⟩
      · have HE : Hid (E = true) := Lib.hid (by
          rw [HSB.out, List.all_eq_true]
          intro j hj
          exact hT.out j (by rw [List.take_of_length_le (by omega)]; exact hj))
        have cN10 := cell_of kN 10 (v := .slice na n.kids.length nc) rfl
        go_wp2
        go_ret
        exact ⟨ret_bool HE.out.symm, hU0⟩
  · rw [if_neg h5] at HSB
    have g5 : (n.op == 5) = false := by simpa using h5
    clear h5
    go_wp2
    go_ret
    exact ⟨ret_bool HSB.out.symm, hU0⟩
end Go.Proofs.Ytigbfgmgdfnhcaa
