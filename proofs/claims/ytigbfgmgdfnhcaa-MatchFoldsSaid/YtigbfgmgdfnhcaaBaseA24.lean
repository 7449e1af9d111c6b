/- Lemmas that the law's proof stands on, part 24: WrF. No condition. -/
import Derived.Test.YtigbfgmgdfnhcaaBaseA0
import Derived.Test.YtigbfgmgdfnhcaaBaseA23
set_option linter.all false
set_option linter.unusedVariables false
set_option linter.unusedSimpArgs false
namespace Go.Proofs.Ytigbfgmgdfnhcaa
open Go.RowKit
theorem node_kv {w : World} {nv : Value} {kvs : List Value} {ns : List NodeD} (h : PatAt w nv kvs ns) (k : Nat) (hk : k < ns.length) : ∃ g c cur na nc, nv = .slice (some ⟨g, 0, none⟩) ns.length c ∧ w.heap[g]? = some (.cells cur 113 (0, 0)) ∧ kvs.getD k undef = .slice na (ns.getD k .zero).kids.length nc ∧
    cur.extract (k * 11) (k * 11 + 11) = (nodeC (ns.getD k .zero) (.slice na (ns.getD k .zero).kids.length nc)).toArray := by
  have hk2 : k < kvs.length := by rw [← h.len]; exact hk
  obtain ⟨h3, h4⟩ := h.kids k hk hk2
  have e0 : ns.getD k .zero = ns[k] := by simp [List.getD_eq_getElem?_getD, List.getElem?_eq_getElem hk]
  have e1 : kvs.getD k undef = kvs[k] := by simp [List.getD_eq_getElem?_getD, List.getElem?_eq_getElem hk2]
  obtain ⟨na, nc, hv⟩ := nats_form h3
  rcases h.own.2 with ⟨_, h0⟩ | ⟨g, cap, cur, rfl, _, hb, hnc, _, hsz, htk⟩
  · omega
  · refine ⟨g, cap, cur, na, nc, rfl, hb, by rw [e1, e0, hv], ?_⟩
    rw [e0, ← hv, ← nodesC_at ns kvs k hk hk2, ← htk]
    apply Array.toList_inj.1
    rw [Array.toList_extract, List.extract_eq_take_drop]
    simp only [List.drop_take, List.take_take]
    congr 1
    omega
theorem catL_cons {rec : Nat → WrD → Option WrD} {k : Nat} {ks : List Nat} {st s2 : WrD} (h : catL rec (k :: ks) st = some s2) : ∃ s, rec k st = some s ∧ catL rec ks s = some s2 := by
  unfold catL at h
  split at h
  · cases h
  · rename_i s hs
    exact ⟨s, hs, h⟩
set_option maxRecDepth 100000 in
set_option maxHeartbeats 8000000 in
theorem nodeW_step {W : World} {B wb : Nat} {p : PatD} {nv : Value} {kvs : List Value} {cv0 : Value} {st : WrD} {cv : Value} {w : World} (h : Wr W B wb p nv kvs cv0 st cv w) (rec : Nat → WrD → Option WrD) (hrec : RecW p rec) (hrs : RecS rec) (hok : WOk st) (hp : PatOK p)
    (k : Nat) (hk : k < p.nodes.length) (st2 : WrD) (hq : st.node rec (p.nodes.getD k .zero) = some st2) :
    Calls Try.prog 45 #[.pointer (some ⟨wb, 0, none⟩), .int .i64 (k : Nat)] w (WrPost W B wb p nv kvs cv0 (.tuple #[]) st2) := by
  have HW := Lib.hid h
  have HREC := Lib.hid hrec
  have HRS := Lib.hid hrs
  have HOK := Lib.hid hok
  have k0 := h.blk
  have hU0 := Upd.refl (fun k => w.heap.size ≤ k) w
  have hz := Nat.le_refl w.heap.size
  obtain ⟨g, c, cur, na, nc, rfl, kG, hkv, hG⟩ := node_kv h.pat k hk
  have hno : NodeOK (p.nodes.getD k .zero) ∧ ∀ j, j ∈ (p.nodes.getD k .zero).kids → j < p.nodes.length := by
    have := hp.ok k hk
    rw [List.getD_eq_getElem?_getD, List.getElem?_eq_getElem hk]
    exact ⟨this.1, fun j hj => Nat.lt_trans (this.2 j hj) hk⟩
  unfold WrD.node at hq
  have c0 := cells_of k0; (try simp only [wrC, instC, nodeC, patC, zzT, zzO, zzS] at c0); have f0 := frees_of k0; have cG := cells_of kG; (try simp only [wrC, instC, nodeC, patC, zzT, zzO, zzS] at cG); have fG := frees_of kG
  cases hlg : st.long
  · rw [if_neg (by rw [hlg]; decide)] at hq
    obtain ⟨n, hn⟩ : ∃ n, p.nodes.getD k .zero = n := ⟨_, rfl⟩
    rw [hn] at hkv hG hno hq
    obtain ⟨nop, ncc, nset, nmin, nmax, nlz, nnn, nks⟩ := n
    simp only [] at hkv hG hno hq
    obtain ⟨hno, hkid⟩ := hno
    have hn0 : 0 ≤ nnn := hno.n0
    have hn9 : nnn ≤ 9 := hno.n9
    have HNO := Lib.hid hno
    have HKID := Lib.hid hkid
    have HKV := Lib.hid hkv
    have HG := Lib.hid hG
    have HN := Lib.hid hn
    have hkl : nks.length ≤ 1000 := hno.kl
    have gk : (k : Int) < (p.nodes.length : Int) := by omega
    have gk0 : (0 : Int) ≤ (k : Int) := by omega
    have HQ := Lib.hid hq
    simp only [hlg] at c0
    clear h hrec hrs hok hkv hG hno hkid hn hq hlg
    by_cases h2 : nop = 2
    · have HQ2 := Lib.hid HQ.out
      rw [if_pos h2] at HQ2
      subst h2
      clear HQ
      have HE := Lib.hid (Option.some.inj HQ2.out)
      clear HQ2
      go_enter Try.func45, Try.ntmps45
      go_wp2_with (first
          | ((with_reducible refine stopLd 113 _ rfl ?_); unfold Stop; refine wpList_load_blk rfl 113 _ rfl g (k * 11) rfl _ (nodeC ⟨2, ncc, nset, nmin, nmax, nlz, nnn, nks⟩ (.slice na nks.length nc)).toArray _ (0, 0) _ kG Try.underlying113 rfl HG.out (by kernel_rfl) ?_)
          | ((with_reducible refine stopAl 113 rfl ?_); unfold Stop; refine wpList_alloc_blk rfl 113 rfl (.agg #[.int .u8 0, .int .u8 0, .int .u64 0, .int .u64 0, .int .u64 0, .int .u64 0, .int .i64 0, .int .i64 0, .bool false, .int .i64 0, .slice none 0 0]) (by kernel_rfl) #[.int .u8 0, .int .u8 0, .int .u64 0, .int .u64 0, .int .u64 0, .int .u64 0, .int .i64 0, .int .i64 0, .bool false, .int .i64 0, .slice none 0 0] rfl ?_; intro bN wn hbn kn hUn hsn; clear c0 f0 cG fG; have l0N := heap_lt k0; rw [hbn] at l0N; replace k0 := hUn.heap k0 (fun h => h); have lGN := heap_lt kG; rw [hbn] at lGN; replace kG := hUn.heap kG (fun h => h); have gN : w.heap.size ≤ bN := Nat.le_trans hU0.size (Nat.le_of_eq hbn); have kN := kn; replace hU0 := hU0.then hUn (fun _ _ h => h.elim); replace hz : w.heap.size ≤ wn.heap.size := (by omega); clear kn hUn hsn hbn; have cN := cells_of kN; (try simp only [wrC, instC, nodeC, patC, zzT, zzO, zzS] at cN); have fN := frees_of kN; have c0 := cells_of k0; (try simp only [wrC, instC, nodeC, patC, zzT, zzO, zzS] at c0); have f0 := frees_of k0; have cG := cells_of kG; (try simp only [wrC, instC, nodeC, patC, zzT, zzO, zzS] at cG); have fG := frees_of kG)
          | ((with_reducible refine stopSt 113 _ _ rfl ?_); unfold Stop; refine wpList_store_blk rfl 113 _ _ rfl _ _ rfl _ (by go_simp; first | done | exact rfl) _ _ _ kN (zzB rfl) (by kernel_rfl) rfl (by simp only [spl, wrC, instC, nodeC, patC, Value.cells, zzT, zzO, zzS, Array.toList]; exact rfl) ?_; intro wn kn hUn hsn; clear cN fN c0 f0 cG fG; replace k0 := hUn.heap k0 (by omega); replace kG := hUn.heap kG (by omega); replace kN := kn; replace hU0 := hU0.then hUn (fun i hi (e : i = _) => by first | exact e | exact absurd hi (by omega) | (subst e; first | assumption | (show _ ≤ _; omega)) | exact .inl e | exact .inr e | exact .inr (.inl e) | exact .inr (.inr e)); replace hz := Nat.le_trans hz (Nat.le_of_eq hsn.symm); clear kn hUn hsn; have cN := cells_of kN; (try simp only [wrC, instC, nodeC, patC, zzT, zzO, zzS] at cN); have fN := frees_of kN; have c0 := cells_of k0; (try simp only [wrC, instC, nodeC, patC, zzT, zzO, zzS] at c0); have f0 := frees_of k0; have cG := cells_of kG; (try simp only [wrC, instC, nodeC, patC, zzT, zzO, zzS] at cG); have fG := frees_of kG)
          | (go_at_call 46; refine (lay_any (HW.out.newer hU0).again { op := 1, c := ncc } HOK.out.len).mono ?_; rintro e w ⟨rfl, cv1, hA⟩; clear cN fN; replace kN := (hA.upd).heap kN (tok_wr (HW.out.newer hU0) kN); clear kG cG fG; have hN1 := (HW.out.newer hU0).trans hA; clear hA; clear HW hU0 hz k0 c0 f0; have HW := Lib.hid hN1; clear hN1; have k0 := HW.out.blk; have hU0 := Upd.refl (fun k => w.heap.size ≤ k) w; have hz := Nat.le_refl w.heap.size; have c0 := cells_of k0; (try simp only [wrC, instC, nodeC, patC, zzT, zzO, zzS] at c0); have f0 := frees_of k0; have cN := cells_of kN; (try simp only [wrC, instC, nodeC, patC, zzT, zzO, zzS] at cN); have fN := frees_of kN))
      first | go_end0 | go_ret
      exact ⟨rfl, _, by rw [← HE.out]; exact HW.out⟩
    by_cases h3 : nop = 3
    · have HQ3 := Lib.hid HQ.out
      rw [if_neg h2, if_pos h3] at HQ3
      subst h3
      clear h2 HQ
      have HE := Lib.hid (Option.some.inj HQ3.out)
      clear HQ3
      go_enter Try.func45, Try.ntmps45
      go_wp2_with (first
          | ((with_reducible refine stopLd 113 _ rfl ?_); unfold Stop; refine wpList_load_blk rfl 113 _ rfl g (k * 11) rfl _ (nodeC ⟨3, ncc, nset, nmin, nmax, nlz, nnn, nks⟩ (.slice na nks.length nc)).toArray _ (0, 0) _ kG Try.underlying113 rfl HG.out (by kernel_rfl) ?_)
          | ((with_reducible refine stopAl 113 rfl ?_); unfold Stop; refine wpList_alloc_blk rfl 113 rfl (.agg #[.int .u8 0, .int .u8 0, .int .u64 0, .int .u64 0, .int .u64 0, .int .u64 0, .int .i64 0, .int .i64 0, .bool false, .int .i64 0, .slice none 0 0]) (by kernel_rfl) #[.int .u8 0, .int .u8 0, .int .u64 0, .int .u64 0, .int .u64 0, .int .u64 0, .int .i64 0, .int .i64 0, .bool false, .int .i64 0, .slice none 0 0] rfl ?_; intro bN wn hbn kn hUn hsn; clear c0 f0 cG fG; have l0N := heap_lt k0; rw [hbn] at l0N; replace k0 := hUn.heap k0 (fun h => h); have lGN := heap_lt kG; rw [hbn] at lGN; replace kG := hUn.heap kG (fun h => h); have gN : w.heap.size ≤ bN := Nat.le_trans hU0.size (Nat.le_of_eq hbn); have kN := kn; replace hU0 := hU0.then hUn (fun _ _ h => h.elim); replace hz : w.heap.size ≤ wn.heap.size := (by omega); clear kn hUn hsn hbn; have cN := cells_of kN; (try simp only [wrC, instC, nodeC, patC, zzT, zzO, zzS] at cN); have fN := frees_of kN; have c0 := cells_of k0; (try simp only [wrC, instC, nodeC, patC, zzT, zzO, zzS] at c0); have f0 := frees_of k0; have cG := cells_of kG; (try simp only [wrC, instC, nodeC, patC, zzT, zzO, zzS] at cG); have fG := frees_of kG)
          | ((with_reducible refine stopSt 113 _ _ rfl ?_); unfold Stop; refine wpList_store_blk rfl 113 _ _ rfl _ _ rfl _ (by go_simp; first | done | exact rfl) _ _ _ kN (zzB rfl) (by kernel_rfl) rfl (by simp only [spl, wrC, instC, nodeC, patC, Value.cells, zzT, zzO, zzS, Array.toList]; exact rfl) ?_; intro wn kn hUn hsn; clear cN fN c0 f0 cG fG; replace k0 := hUn.heap k0 (by omega); replace kG := hUn.heap kG (by omega); replace kN := kn; replace hU0 := hU0.then hUn (fun i hi (e : i = _) => by first | exact e | exact absurd hi (by omega) | (subst e; first | assumption | (show _ ≤ _; omega)) | exact .inl e | exact .inr e | exact .inr (.inl e) | exact .inr (.inr e)); replace hz := Nat.le_trans hz (Nat.le_of_eq hsn.symm); clear kn hUn hsn; have cN := cells_of kN; (try simp only [wrC, instC, nodeC, patC, zzT, zzO, zzS] at cN); have fN := frees_of kN; have c0 := cells_of k0; (try simp only [wrC, instC, nodeC, patC, zzT, zzO, zzS] at c0); have f0 := frees_of k0; have cG := cells_of kG; (try simp only [wrC, instC, nodeC, patC, zzT, zzO, zzS] at cG); have fG := frees_of kG)
          | (go_at_call 46; refine (lay_any (HW.out.newer hU0).again { op := 2 } HOK.out.len).mono ?_; rintro e w ⟨rfl, cv1, hA⟩; clear cN fN; replace kN := (hA.upd).heap kN (tok_wr (HW.out.newer hU0) kN); clear kG cG fG; have hN1 := (HW.out.newer hU0).trans hA; clear hA; clear HW hU0 hz k0 c0 f0; have HW := Lib.hid hN1; clear hN1; have k0 := HW.out.blk; have hU0 := Upd.refl (fun k => w.heap.size ≤ k) w; have hz := Nat.le_refl w.heap.size; have c0 := cells_of k0; (try simp only [wrC, instC, nodeC, patC, zzT, zzO, zzS] at c0); have f0 := frees_of k0; have cN := cells_of kN; (try simp only [wrC, instC, nodeC, patC, zzT, zzO, zzS] at cN); have fN := frees_of kN))
      first | go_end0 | go_ret
      exact ⟨rfl, _, by rw [← HE.out]; exact HW.out⟩
    by_cases h4 : nop = 4
    · have HQ4 := Lib.hid HQ.out
      rw [if_neg h2, if_neg h3, if_pos h4] at HQ4
      subst h4
      clear h2 h3 HQ
      have HE := Lib.hid (Option.some.inj HQ4.out)
      clear HQ4
      go_enter Try.func45, Try.ntmps45
      go_wp2_with (first
          | ((with_reducible refine stopLd 113 _ rfl ?_); unfold Stop; refine wpList_load_blk rfl 113 _ rfl g (k * 11) rfl _ (nodeC ⟨4, ncc, nset, nmin, nmax, nlz, nnn, nks⟩ (.slice na nks.length nc)).toArray _ (0, 0) _ kG Try.underlying113 rfl HG.out (by kernel_rfl) ?_)
          | ((with_reducible refine stopAl 113 rfl ?_); unfold Stop; refine wpList_alloc_blk rfl 113 rfl (.agg #[.int .u8 0, .int .u8 0, .int .u64 0, .int .u64 0, .int .u64 0, .int .u64 0, .int .i64 0, .int .i64 0, .bool false, .int .i64 0, .slice none 0 0]) (by kernel_rfl) #[.int .u8 0, .int .u8 0, .int .u64 0, .int .u64 0, .int .u64 0, .int .u64 0, .int .i64 0, .int .i64 0, .bool false, .int .i64 0, .slice none 0 0] rfl ?_; intro bN wn hbn kn hUn hsn; clear c0 f0 cG fG; have l0N := heap_lt k0; rw [hbn] at l0N; replace k0 := hUn.heap k0 (fun h => h); have lGN := heap_lt kG; rw [hbn] at lGN; replace kG := hUn.heap kG (fun h => h); have gN : w.heap.size ≤ bN := Nat.le_trans hU0.size (Nat.le_of_eq hbn); have kN := kn; replace hU0 := hU0.then hUn (fun _ _ h => h.elim); replace hz : w.heap.size ≤ wn.heap.size := (by omega); clear kn hUn hsn hbn; have cN := cells_of kN; (try simp only [wrC, instC, nodeC, patC, zzT, zzO, zzS] at cN); have fN := frees_of kN; have c0 := cells_of k0; (try simp only [wrC, instC, nodeC, patC, zzT, zzO, zzS] at c0); have f0 := frees_of k0; have cG := cells_of kG; (try simp only [wrC, instC, nodeC, patC, zzT, zzO, zzS] at cG); have fG := frees_of kG)
          | ((with_reducible refine stopSt 113 _ _ rfl ?_); unfold Stop; refine wpList_store_blk rfl 113 _ _ rfl _ _ rfl _ (by go_simp; first | done | exact rfl) _ _ _ kN (zzB rfl) (by kernel_rfl) rfl (by simp only [spl, wrC, instC, nodeC, patC, Value.cells, zzT, zzO, zzS, Array.toList]; exact rfl) ?_; intro wn kn hUn hsn; clear cN fN c0 f0 cG fG; replace k0 := hUn.heap k0 (by omega); replace kG := hUn.heap kG (by omega); replace kN := kn; replace hU0 := hU0.then hUn (fun i hi (e : i = _) => by first | exact e | exact absurd hi (by omega) | (subst e; first | assumption | (show _ ≤ _; omega)) | exact .inl e | exact .inr e | exact .inr (.inl e) | exact .inr (.inr e)); replace hz := Nat.le_trans hz (Nat.le_of_eq hsn.symm); clear kn hUn hsn; have cN := cells_of kN; (try simp only [wrC, instC, nodeC, patC, zzT, zzO, zzS] at cN); have fN := frees_of kN; have c0 := cells_of k0; (try simp only [wrC, instC, nodeC, patC, zzT, zzO, zzS] at c0); have f0 := frees_of k0; have cG := cells_of kG; (try simp only [wrC, instC, nodeC, patC, zzT, zzO, zzS] at cG); have fG := frees_of kG)
          | ((with_reducible refine stopLd 61 _ rfl ?_); unfold Stop; refine wpList_load_blk rfl 61 _ rfl bN 2 rfl _ #[.int .u64 nset.a0, .int .u64 nset.a1, .int .u64 nset.a2, .int .u64 nset.a3] _ (0, 0) _ kN Try.underlying61 rfl rfl (by kernel_rfl) ?_)
          | (go_at_call 46; refine (lay_any (HW.out.newer hU0).again { op := 3, set := nset } HOK.out.len).mono ?_; rintro e w ⟨rfl, cv1, hA⟩; clear cN fN; replace kN := (hA.upd).heap kN (tok_wr (HW.out.newer hU0) kN); clear kG cG fG; have hN1 := (HW.out.newer hU0).trans hA; clear hA; clear HW hU0 hz k0 c0 f0; have HW := Lib.hid hN1; clear hN1; have k0 := HW.out.blk; have hU0 := Upd.refl (fun k => w.heap.size ≤ k) w; have hz := Nat.le_refl w.heap.size; have c0 := cells_of k0; (try simp only [wrC, instC, nodeC, patC, zzT, zzO, zzS] at c0); have f0 := frees_of k0; have cN := cells_of kN; (try simp only [wrC, instC, nodeC, patC, zzT, zzO, zzS] at cN); have fN := frees_of kN))
      first | go_end0 | go_ret
      exact ⟨rfl, _, by rw [← HE.out]; exact HW.out⟩
    by_cases h5 : nop = 5
    · have HQ5 := Lib.hid HQ.out
      rw [if_neg h2, if_neg h3, if_neg h4, if_pos h5] at HQ5
      subst h5
      clear h2 h3 h4 HQ
      go_enter Try.func45, Try.ntmps45
      go_wp2_with (first
          | ((with_reducible refine stopLd 113 _ rfl ?_); unfold Stop; refine wpList_load_blk rfl 113 _ rfl g (k * 11) rfl _ (nodeC ⟨5, ncc, nset, nmin, nmax, nlz, nnn, nks⟩ (.slice na nks.length nc)).toArray _ (0, 0) _ kG Try.underlying113 rfl HG.out (by kernel_rfl) ?_)
          | ((with_reducible refine stopAl 113 rfl ?_); unfold Stop; refine wpList_alloc_blk rfl 113 rfl (.agg #[.int .u8 0, .int .u8 0, .int .u64 0, .int .u64 0, .int .u64 0, .int .u64 0, .int .i64 0, .int .i64 0, .bool false, .int .i64 0, .slice none 0 0]) (by kernel_rfl) #[.int .u8 0, .int .u8 0, .int .u64 0, .int .u64 0, .int .u64 0, .int .u64 0, .int .i64 0, .int .i64 0, .bool false, .int .i64 0, .slice none 0 0] rfl ?_; intro bN wn hbn kn hUn hsn; clear c0 f0 cG fG; have l0N := heap_lt k0; rw [hbn] at l0N; replace k0 := hUn.heap k0 (fun h => h); have lGN := heap_lt kG; rw [hbn] at lGN; replace kG := hUn.heap kG (fun h => h); have gN : w.heap.size ≤ bN := Nat.le_trans hU0.size (Nat.le_of_eq hbn); have kN := kn; replace hU0 := hU0.then hUn (fun _ _ h => h.elim); replace hz : w.heap.size ≤ wn.heap.size := (by omega); clear kn hUn hsn hbn; have cN := cells_of kN; (try simp only [wrC, instC, nodeC, patC, zzT, zzO, zzS] at cN); have fN := frees_of kN; have c0 := cells_of k0; (try simp only [wrC, instC, nodeC, patC, zzT, zzO, zzS] at c0); have f0 := frees_of k0; have cG := cells_of kG; (try simp only [wrC, instC, nodeC, patC, zzT, zzO, zzS] at cG); have fG := frees_of kG)
          | ((with_reducible refine stopSt 113 _ _ rfl ?_); unfold Stop; refine wpList_store_blk rfl 113 _ _ rfl _ _ rfl _ (by go_simp; first | done | exact rfl) _ _ _ kN (zzB rfl) (by kernel_rfl) rfl (by simp only [spl, wrC, instC, nodeC, patC, Value.cells, zzT, zzO, zzS, Array.toList]; exact rfl) ?_; intro wn kn hUn hsn; clear cN fN c0 f0 cG fG; replace k0 := hUn.heap k0 (by omega); replace kG := hUn.heap kG (by omega); replace kN := kn; replace hU0 := hU0.then hUn (fun i hi (e : i = _) => by first | exact e | exact absurd hi (by omega) | (subst e; first | assumption | (show _ ≤ _; omega)) | exact .inl e | exact .inr e | exact .inr (.inl e) | exact .inr (.inr e)); replace hz := Nat.le_trans hz (Nat.le_of_eq hsn.symm); clear kn hUn hsn; have cN := cells_of kN; (try simp only [wrC, instC, nodeC, patC, zzT, zzO, zzS] at cN); have fN := frees_of kN; have c0 := cells_of k0; (try simp only [wrC, instC, nodeC, patC, zzT, zzO, zzS] at c0); have f0 := frees_of k0; have cG := cells_of kG; (try simp only [wrC, instC, nodeC, patC, zzT, zzO, zzS] at cG); have fG := frees_of kG))
      have HW0 := Lib.hid (HW.out.newer hU0)
      clear HW hU0 hz k0 c0 f0 cN fN kG cG fG
      go_loopg [5] nks.length (fun gk iv wr => ∃ (i : Nat) (st1 : WrD) (cv1 : Value), iv = .int .i64 (i : Nat) ∧ i + gk = nks.length ∧ Hid (catL rec (nks.drop i) st1 = some st2) ∧ Wr W B wb p (.slice (some ⟨g, 0, none⟩) p.nodes.length c) kvs cv0 st1 cv1 wr ∧ WOk st1 ∧ wr.heap[bN]? = some (.cells (nodeC ⟨5, ncc, nset, nmin, nmax, nlz, nnn, nks⟩ (.slice na nks.length nc)).toArray 113 (0, 0)))
      case atStart => exact ⟨0, st, _, rfl, by omega, HQ5, HW0.out, HOK.out, kN⟩
      case round =>
        clear HW0 HOK kN HQ5
        obtain ⟨i, st1, cv1, rfl, hi2, hE, hW1, hok1, kN⟩ := hrel
        obtain ⟨w, rfl⟩ : ∃ w, w = wr := ⟨_, rfl⟩
        have HW := Lib.hid hW1
        have HOK := Lib.hid hok1
        have k0 := hW1.blk
        have hU0 := Upd.refl (fun k => w.heap.size ≤ k) w
        have hz := Nat.le_refl w.heap.size
        have hpat := hW1.pat
        clear hW1 hok1
        have c0 := cells_of k0; (try simp only [wrC, instC, nodeC, patC, zzT, zzO, zzS] at c0); have f0 := frees_of k0; have cN := cells_of kN; (try simp only [wrC, instC, nodeC, patC, zzT, zzO, zzS] at cN); have fN := frees_of kN
        by_cases hlt : i < nks.length
        · obtain ⟨b0, o0, rfl, ck⟩ := kid_cell hpat k hk HKV.out i (by rw [HN.out]; exact hlt)
          rw [HN.out] at ck
          have hj2 : (nks.getD i 0) = nks[i] := by rw [List.getD_eq_getElem?_getD, List.getElem?_eq_getElem hlt]; rfl
          obtain ⟨j, hj⟩ : ∃ j, nks[i] = j := ⟨_, rfl⟩
          have ck2 : w.cell? ⟨b0, o0 + i, none⟩ = some (.int .i64 (j : Nat)) := by rw [ck]; show some (Value.int .i64 ((nks.getD i 0 : Nat) : Int)) = _; rw [hj2, hj]
          have hjl := HKID.out j (by rw [← hj]; exact List.getElem_mem hlt)
          have hE2 := hE.out
          rw [List.drop_eq_getElem_cons hlt, hj] at hE2
          obtain ⟨s, hs, hs2⟩ := catL_cons hE2
          have HS := Lib.hid hs
          have HS2 := Lib.hid hs2
          have HST := Lib.hid (HRS.out j st1 s HOK.out hs)
          have gi : (i : Int) < (nks.length : Int) := by omega
          have gi0 : (0 : Int) ≤ (i : Int) := by omega
          clear hs hs2 hE hE2 hj hj2 ck hpat
          go_wp2_with (first
            | (go_at_call 45; refine (HREC.out _ B wb _ kvs _ _ _ _ j s (HW.out.newer hU0).again HOK.out hjl HS.out).mono ?_; rintro e w ⟨rfl, cv1, hA⟩; clear cN fN; replace kN := (hA.upd).heap kN (tok_wr (HW.out.newer hU0) kN); have hN1 := (HW.out.newer hU0).trans hA; clear hA; clear HW hU0 hz k0 c0 f0; have HW := Lib.hid hN1; clear hN1; have k0 := HW.out.blk; have hU0 := Upd.refl (fun k => w.heap.size ≤ k) w; have hz := Nat.le_refl w.heap.size; have c0 := cells_of k0; (try simp only [wrC, instC, nodeC, patC, zzT, zzO, zzS] at c0); have f0 := frees_of k0; have cN := cells_of kN; (try simp only [wrC, instC, nodeC, patC, zzT, zzO, zzS] at cN); have fN := frees_of kN))
          go_roundg (gk - 1)
          case measure => omega
          case rel => exact ⟨i + 1, s, _, by go_num, by omega, HS2, HW.out, HST.out.ok, kN⟩
        · have hE2 := hE.out
          rw [List.drop_of_length_le (by omega)] at hE2
          unfold catL at hE2
          have HE := Lib.hid (Option.some.inj hE2)
          have gi : ¬ (i : Int) < (nks.length : Int) := by omega
          clear hE hE2 hpat
          go_wp2
          first | go_end0 | go_ret
          exact ⟨rfl, _, by rw [← HE.out]; exact HW.out⟩
    by_cases h6 : nop = 6
    · have HQ6 := Lib.hid HQ.out
      rw [if_neg h2, if_neg h3, if_neg h4, if_neg h5, if_pos h6] at HQ6
      subst h6
      clear h2 h3 h4 h5 HQ
      go_enter Try.func45, Try.ntmps45
      go_wp2_with (first
          | ((with_reducible refine stopLd 113 _ rfl ?_); unfold Stop; refine wpList_load_blk rfl 113 _ rfl g (k * 11) rfl _ (nodeC ⟨6, ncc, nset, nmin, nmax, nlz, nnn, nks⟩ (.slice na nks.length nc)).toArray _ (0, 0) _ kG Try.underlying113 rfl HG.out (by kernel_rfl) ?_)
          | ((with_reducible refine stopAl 113 rfl ?_); unfold Stop; refine wpList_alloc_blk rfl 113 rfl (.agg #[.int .u8 0, .int .u8 0, .int .u64 0, .int .u64 0, .int .u64 0, .int .u64 0, .int .i64 0, .int .i64 0, .bool false, .int .i64 0, .slice none 0 0]) (by kernel_rfl) #[.int .u8 0, .int .u8 0, .int .u64 0, .int .u64 0, .int .u64 0, .int .u64 0, .int .i64 0, .int .i64 0, .bool false, .int .i64 0, .slice none 0 0] rfl ?_; intro bN wn hbn kn hUn hsn; clear c0 f0 cG fG; have l0N := heap_lt k0; rw [hbn] at l0N; replace k0 := hUn.heap k0 (fun h => h); have lGN := heap_lt kG; rw [hbn] at lGN; replace kG := hUn.heap kG (fun h => h); have gN : w.heap.size ≤ bN := Nat.le_trans hU0.size (Nat.le_of_eq hbn); have kN := kn; replace hU0 := hU0.then hUn (fun _ _ h => h.elim); replace hz : w.heap.size ≤ wn.heap.size := (by omega); clear kn hUn hsn hbn; have cN := cells_of kN; (try simp only [wrC, instC, nodeC, patC, zzT, zzO, zzS] at cN); have fN := frees_of kN; have c0 := cells_of k0; (try simp only [wrC, instC, nodeC, patC, zzT, zzO, zzS] at c0); have f0 := frees_of k0; have cG := cells_of kG; (try simp only [wrC, instC, nodeC, patC, zzT, zzO, zzS] at cG); have fG := frees_of kG)
          | ((with_reducible refine stopSt 113 _ _ rfl ?_); unfold Stop; refine wpList_store_blk rfl 113 _ _ rfl _ _ rfl _ (by go_simp; first | done | exact rfl) _ _ _ kN (zzB rfl) (by kernel_rfl) rfl (by simp only [spl, wrC, instC, nodeC, patC, Value.cells, zzT, zzO, zzS, Array.toList]; exact rfl) ?_; intro wn kn hUn hsn; clear cN fN c0 f0 cG fG; replace k0 := hUn.heap k0 (by omega); replace kG := hUn.heap kG (by omega); replace kN := kn; replace hU0 := hU0.then hUn (fun i hi (e : i = _) => by first | exact e | exact absurd hi (by omega) | (subst e; first | assumption | (show _ ≤ _; omega)) | exact .inl e | exact .inr e | exact .inr (.inl e) | exact .inr (.inr e)); replace hz := Nat.le_trans hz (Nat.le_of_eq hsn.symm); clear kn hUn hsn; have cN := cells_of kN; (try simp only [wrC, instC, nodeC, patC, zzT, zzO, zzS] at cN); have fN := frees_of kN; have c0 := cells_of k0; (try simp only [wrC, instC, nodeC, patC, zzT, zzO, zzS] at c0); have f0 := frees_of k0; have cG := cells_of kG; (try simp only [wrC, instC, nodeC, patC, zzT, zzO, zzS] at cG); have fG := frees_of kG)
          | (go_at_call 65; refine (altW_any (HW.out.newer hU0) rec HREC.out HRS.out HOK.out k hk nks (by rw [HN.out]) hkl HKID.out na nc HKV.out st2 HQ6.out).mono ?_; rintro e w2 ⟨rfl, hP⟩))
      first | go_end0 | go_ret
      exact ⟨rfl, hP⟩
    by_cases h7 : nop = 7
    · have HQ7 := Lib.hid HQ.out
      rw [if_neg h2, if_neg h3, if_neg h4, if_neg h5, if_neg h6, if_pos h7] at HQ7
      subst h7
      clear h2 h3 h4 h5 h6 HQ
      have hk0 : 0 < nks.length := by have := HNO.out.one (.inl rfl); simp only [] at this; omega
      have HKD : Hid (nks.headD 0 < p.nodes.length) := Lib.hid (HKID.out _ (by cases nks with | nil => simp at hk0 | cons a l => simp))
      go_enter Try.func45, Try.ntmps45
      go_wp2_with (first
          | ((with_reducible refine stopLd 113 _ rfl ?_); unfold Stop; refine wpList_load_blk rfl 113 _ rfl g (k * 11) rfl _ (nodeC ⟨7, ncc, nset, nmin, nmax, nlz, nnn, nks⟩ (.slice na nks.length nc)).toArray _ (0, 0) _ kG Try.underlying113 rfl HG.out (by kernel_rfl) ?_)
          | ((with_reducible refine stopAl 113 rfl ?_); unfold Stop; refine wpList_alloc_blk rfl 113 rfl (.agg #[.int .u8 0, .int .u8 0, .int .u64 0, .int .u64 0, .int .u64 0, .int .u64 0, .int .i64 0, .int .i64 0, .bool false, .int .i64 0, .slice none 0 0]) (by kernel_rfl) #[.int .u8 0, .int .u8 0, .int .u64 0, .int .u64 0, .int .u64 0, .int .u64 0, .int .i64 0, .int .i64 0, .bool false, .int .i64 0, .slice none 0 0] rfl ?_; intro bN wn hbn kn hUn hsn; clear c0 f0 cG fG; have l0N := heap_lt k0; rw [hbn] at l0N; replace k0 := hUn.heap k0 (fun h => h); have lGN := heap_lt kG; rw [hbn] at lGN; replace kG := hUn.heap kG (fun h => h); have gN : w.heap.size ≤ bN := Nat.le_trans hU0.size (Nat.le_of_eq hbn); have kN := kn; replace hU0 := hU0.then hUn (fun _ _ h => h.elim); replace hz : w.heap.size ≤ wn.heap.size := (by omega); clear kn hUn hsn hbn; have cN := cells_of kN; (try simp only [wrC, instC, nodeC, patC, zzT, zzO, zzS] at cN); have fN := frees_of kN; have c0 := cells_of k0; (try simp only [wrC, instC, nodeC, patC, zzT, zzO, zzS] at c0); have f0 := frees_of k0; have cG := cells_of kG; (try simp only [wrC, instC, nodeC, patC, zzT, zzO, zzS] at cG); have fG := frees_of kG)
          | ((with_reducible refine stopSt 113 _ _ rfl ?_); unfold Stop; refine wpList_store_blk rfl 113 _ _ rfl _ _ rfl _ (by go_simp; first | done | exact rfl) _ _ _ kN (zzB rfl) (by kernel_rfl) rfl (by simp only [spl, wrC, instC, nodeC, patC, Value.cells, zzT, zzO, zzS, Array.toList]; exact rfl) ?_; intro wn kn hUn hsn; clear cN fN c0 f0 cG fG; replace k0 := hUn.heap k0 (by omega); replace kG := hUn.heap kG (by omega); replace kN := kn; replace hU0 := hU0.then hUn (fun i hi (e : i = _) => by first | exact e | exact absurd hi (by omega) | (subst e; first | assumption | (show _ ≤ _; omega)) | exact .inl e | exact .inr e | exact .inr (.inl e) | exact .inr (.inr e)); replace hz := Nat.le_trans hz (Nat.le_of_eq hsn.symm); clear kn hUn hsn; have cN := cells_of kN; (try simp only [wrC, instC, nodeC, patC, zzT, zzO, zzS] at cN); have fN := frees_of kN; have c0 := cells_of k0; (try simp only [wrC, instC, nodeC, patC, zzT, zzO, zzS] at c0); have f0 := frees_of k0; have cG := cells_of kG; (try simp only [wrC, instC, nodeC, patC, zzT, zzO, zzS] at cG); have fG := frees_of kG)
          | ((with_reducible refine stopLd 113 _ rfl ?_); unfold Stop; refine wpList_load_row rfl 113 _ rfl _ rfl 113 _ (0, 0) _ kN Try.underlying113 rfl (by kernel_rfl) ?_)
          | (go_at_call 66; refine (manyW_any (HW.out.newer hU0) rec HREC.out HRS.out HOK.out k hk _ HN.out HNO.out hk0 HKD.out na nc HKV.out st2 HQ7.out).mono ?_; rintro e w2 ⟨rfl, hP⟩))
      first | go_end0 | go_ret
      exact ⟨rfl, hP⟩
    by_cases h8 : nop = 8
    · have HQ8 := Lib.hid HQ.out
      rw [if_neg h2, if_neg h3, if_neg h4, if_neg h5, if_neg h6, if_neg h7, if_pos h8] at HQ8
      subst h8
      clear h2 h3 h4 h5 h6 h7 HQ
      have hk0 : 0 < nks.length := by have := HNO.out.one (.inr rfl); simp only [] at this; omega
      have HKD : Hid (nks.headD 0 < p.nodes.length) := Lib.hid (HKID.out _ (by cases nks with | nil => simp at hk0 | cons a l => simp))
      have gl0 : (0 : Int) < (nks.length : Int) := by omega
      cases hs : rec (nks.headD 0) (st.lay { op := 6, x := 2 * nnn }).2 with
      | none => have := HQ8.out; rw [hs] at this; cases this
      | some s =>
        have e := HQ8.out
        rw [hs] at e
        have HE := Lib.hid (Option.some.inj e)
        have g1 := (WStp.lay HOK.out { op := 6, x := 2 * nnn }).1
        have g2 := HRS.out _ _ s g1.ok hs
        have HG1 := Lib.hid g1
        have HG2 := Lib.hid g2
        have HS := Lib.hid hs
        obtain ⟨kb, ko, rfl, _⟩ := kid_cell HW.out.pat k hk HKV.out 0 (by rw [HN.out]; exact hk0)
        have HKC := Lib.hid (fun (w : World) (hp : PatAt w (.slice (some ⟨g, 0, none⟩) p.nodes.length c) kvs p.nodes) => show w.cell? ⟨kb, ko, none⟩ = some (.int .i64 ((nks.headD 0 : Nat) : Int)) by
          obtain ⟨b2, o2, e, hc⟩ := kid_cell hp k hk HKV.out 0 (by rw [HN.out]; exact hk0)
          injection e with e
          injection e with e1 e2
          rw [HN.out] at hc
          rw [e1, e2, headD_getD]
          simpa using hc)
        obtain ⟨kd, hkd⟩ : ∃ kd, nks.headD 0 = kd := ⟨_, rfl⟩
        rw [hkd] at HKC HS HKD
        clear hs e g1 g2 HQ8 hkd
        go_enter Try.func45, Try.ntmps45
        go_wp2_with (first
            | ((with_reducible refine stopLd 113 _ rfl ?_); unfold Stop; refine wpList_load_blk rfl 113 _ rfl g (k * 11) rfl _ (nodeC ⟨8, ncc, nset, nmin, nmax, nlz, nnn, nks⟩ (.slice (some ⟨kb, ko, none⟩) nks.length nc)).toArray _ (0, 0) _ kG Try.underlying113 rfl HG.out (by kernel_rfl) ?_)
            | ((with_reducible refine stopAl 113 rfl ?_); unfold Stop; refine wpList_alloc_blk rfl 113 rfl (.agg #[.int .u8 0, .int .u8 0, .int .u64 0, .int .u64 0, .int .u64 0, .int .u64 0, .int .i64 0, .int .i64 0, .bool false, .int .i64 0, .slice none 0 0]) (by kernel_rfl) #[.int .u8 0, .int .u8 0, .int .u64 0, .int .u64 0, .int .u64 0, .int .u64 0, .int .i64 0, .int .i64 0, .bool false, .int .i64 0, .slice none 0 0] rfl ?_; intro bN wn hbn kn hUn hsn; clear c0 f0 cG fG; have l0N := heap_lt k0; rw [hbn] at l0N; replace k0 := hUn.heap k0 (fun h => h); have lGN := heap_lt kG; rw [hbn] at lGN; replace kG := hUn.heap kG (fun h => h); have gN : w.heap.size ≤ bN := Nat.le_trans hU0.size (Nat.le_of_eq hbn); have kN := kn; replace hU0 := hU0.then hUn (fun _ _ h => h.elim); replace hz : w.heap.size ≤ wn.heap.size := (by omega); clear kn hUn hsn hbn; have cN := cells_of kN; (try simp only [wrC, instC, nodeC, patC, zzT, zzO, zzS] at cN); have fN := frees_of kN; have c0 := cells_of k0; (try simp only [wrC, instC, nodeC, patC, zzT, zzO, zzS] at c0); have f0 := frees_of k0; have cG := cells_of kG; (try simp only [wrC, instC, nodeC, patC, zzT, zzO, zzS] at cG); have fG := frees_of kG)
            | ((with_reducible refine stopSt 113 _ _ rfl ?_); unfold Stop; refine wpList_store_blk rfl 113 _ _ rfl _ _ rfl _ (by go_simp; first | done | exact rfl) _ _ _ kN (zzB rfl) (by kernel_rfl) rfl (by simp only [spl, wrC, instC, nodeC, patC, Value.cells, zzT, zzO, zzS, Array.toList]; exact rfl) ?_; intro wn kn hUn hsn; clear cN fN c0 f0 cG fG; replace k0 := hUn.heap k0 (by omega); replace kG := hUn.heap kG (by omega); replace kN := kn; replace hU0 := hU0.then hUn (fun i hi (e : i = _) => by first | exact e | exact absurd hi (by omega) | (subst e; first | assumption | (show _ ≤ _; omega)) | exact .inl e | exact .inr e | exact .inr (.inl e) | exact .inr (.inr e)); replace hz := Nat.le_trans hz (Nat.le_of_eq hsn.symm); clear kn hUn hsn; have cN := cells_of kN; (try simp only [wrC, instC, nodeC, patC, zzT, zzO, zzS] at cN); have fN := frees_of kN; have c0 := cells_of k0; (try simp only [wrC, instC, nodeC, patC, zzT, zzO, zzS] at c0); have f0 := frees_of k0; have cG := cells_of kG; (try simp only [wrC, instC, nodeC, patC, zzT, zzO, zzS] at cG); have fG := frees_of kG)
            | (go_at_call 46; refine (lay_any (HW.out.newer hU0).again { op := 6, x := 2 * nnn } HOK.out.len).mono ?_; rintro e w ⟨rfl, cv1, hA⟩; clear cN fN; replace kN := (hA.upd).heap kN (tok_wr (HW.out.newer hU0) kN); clear kG cG fG; have ck := HKC.out _ hA.pat; have hN1 := (HW.out.newer hU0).trans hA; clear hA; clear HW hU0 hz k0 c0 f0; have HW := Lib.hid hN1; clear hN1; have k0 := HW.out.blk; have hU0 := Upd.refl (fun k => w.heap.size ≤ k) w; have hz := Nat.le_refl w.heap.size; have c0 := cells_of k0; (try simp only [wrC, instC, nodeC, patC, zzT, zzO, zzS] at c0); have f0 := frees_of k0; have cN := cells_of kN; (try simp only [wrC, instC, nodeC, patC, zzT, zzO, zzS] at cN); have fN := frees_of kN)
            | (go_at_call 45; refine (HREC.out _ B wb _ kvs _ _ _ _ kd s (HW.out.newer hU0).again HG1.out.ok HKD.out HS.out).mono ?_; rintro e w ⟨rfl, cv1, hA⟩; clear cN fN; replace kN := (hA.upd).heap kN (tok_wr (HW.out.newer hU0) kN); have hN1 := (HW.out.newer hU0).trans hA; clear hA; clear HW hU0 hz k0 c0 f0; have HW := Lib.hid hN1; clear hN1; have k0 := HW.out.blk; have hU0 := Upd.refl (fun k => w.heap.size ≤ k) w; have hz := Nat.le_refl w.heap.size; have c0 := cells_of k0; (try simp only [wrC, instC, nodeC, patC, zzT, zzO, zzS] at c0); have f0 := frees_of k0; have cN := cells_of kN; (try simp only [wrC, instC, nodeC, patC, zzT, zzO, zzS] at cN); have fN := frees_of kN)
            | (go_at_call 46; refine (lay_any (HW.out.newer hU0).again { op := 6, x := 2 * nnn + 1 } HG2.out.ok.len).mono ?_; rintro e w ⟨rfl, cv1, hA⟩; clear cN fN; replace kN := (hA.upd).heap kN (tok_wr (HW.out.newer hU0) kN); have hN1 := (HW.out.newer hU0).trans hA; clear hA; clear HW hU0 hz k0 c0 f0; have HW := Lib.hid hN1; clear hN1; have k0 := HW.out.blk; have hU0 := Upd.refl (fun k => w.heap.size ≤ k) w; have hz := Nat.le_refl w.heap.size; have c0 := cells_of k0; (try simp only [wrC, instC, nodeC, patC, zzT, zzO, zzS] at c0); have f0 := frees_of k0; have cN := cells_of kN; (try simp only [wrC, instC, nodeC, patC, zzT, zzO, zzS] at cN); have fN := frees_of kN))
        first | go_end0 | go_ret
        exact ⟨rfl, _, by rw [← HE.out]; exact HW.out⟩
    by_cases h9 : nop = 9
    · have HQ9 := Lib.hid HQ.out
      rw [if_neg h2, if_neg h3, if_neg h4, if_neg h5, if_neg h6, if_neg h7, if_neg h8, if_pos h9] at HQ9
      subst h9
      clear h2 h3 h4 h5 h6 h7 h8 HQ
      have HE := Lib.hid (Option.some.inj HQ9.out)
      clear HQ9
      go_enter Try.func45, Try.ntmps45
      go_wp2_with (first
          | ((with_reducible refine stopLd 113 _ rfl ?_); unfold Stop; refine wpList_load_blk rfl 113 _ rfl g (k * 11) rfl _ (nodeC ⟨9, ncc, nset, nmin, nmax, nlz, nnn, nks⟩ (.slice na nks.length nc)).toArray _ (0, 0) _ kG Try.underlying113 rfl HG.out (by kernel_rfl) ?_)
          | ((with_reducible refine stopAl 113 rfl ?_); unfold Stop; refine wpList_alloc_blk rfl 113 rfl (.agg #[.int .u8 0, .int .u8 0, .int .u64 0, .int .u64 0, .int .u64 0, .int .u64 0, .int .i64 0, .int .i64 0, .bool false, .int .i64 0, .slice none 0 0]) (by kernel_rfl) #[.int .u8 0, .int .u8 0, .int .u64 0, .int .u64 0, .int .u64 0, .int .u64 0, .int .i64 0, .int .i64 0, .bool false, .int .i64 0, .slice none 0 0] rfl ?_; intro bN wn hbn kn hUn hsn; clear c0 f0 cG fG; have l0N := heap_lt k0; rw [hbn] at l0N; replace k0 := hUn.heap k0 (fun h => h); have lGN := heap_lt kG; rw [hbn] at lGN; replace kG := hUn.heap kG (fun h => h); have gN : w.heap.size ≤ bN := Nat.le_trans hU0.size (Nat.le_of_eq hbn); have kN := kn; replace hU0 := hU0.then hUn (fun _ _ h => h.elim); replace hz : w.heap.size ≤ wn.heap.size := (by omega); clear kn hUn hsn hbn; have cN := cells_of kN; (try simp only [wrC, instC, nodeC, patC, zzT, zzO, zzS] at cN); have fN := frees_of kN; have c0 := cells_of k0; (try simp only [wrC, instC, nodeC, patC, zzT, zzO, zzS] at c0); have f0 := frees_of k0; have cG := cells_of kG; (try simp only [wrC, instC, nodeC, patC, zzT, zzO, zzS] at cG); have fG := frees_of kG)
          | ((with_reducible refine stopSt 113 _ _ rfl ?_); unfold Stop; refine wpList_store_blk rfl 113 _ _ rfl _ _ rfl _ (by go_simp; first | done | exact rfl) _ _ _ kN (zzB rfl) (by kernel_rfl) rfl (by simp only [spl, wrC, instC, nodeC, patC, Value.cells, zzT, zzO, zzS, Array.toList]; exact rfl) ?_; intro wn kn hUn hsn; clear cN fN c0 f0 cG fG; replace k0 := hUn.heap k0 (by omega); replace kG := hUn.heap kG (by omega); replace kN := kn; replace hU0 := hU0.then hUn (fun i hi (e : i = _) => by first | exact e | exact absurd hi (by omega) | (subst e; first | assumption | (show _ ≤ _; omega)) | exact .inl e | exact .inr e | exact .inr (.inl e) | exact .inr (.inr e)); replace hz := Nat.le_trans hz (Nat.le_of_eq hsn.symm); clear kn hUn hsn; have cN := cells_of kN; (try simp only [wrC, instC, nodeC, patC, zzT, zzO, zzS] at cN); have fN := frees_of kN; have c0 := cells_of k0; (try simp only [wrC, instC, nodeC, patC, zzT, zzO, zzS] at c0); have f0 := frees_of k0; have cG := cells_of kG; (try simp only [wrC, instC, nodeC, patC, zzT, zzO, zzS] at cG); have fG := frees_of kG)
          | (go_at_call 46; refine (lay_any (HW.out.newer hU0).again { op := 7, x := nnn } HOK.out.len).mono ?_; rintro e w ⟨rfl, cv1, hA⟩; clear cN fN; replace kN := (hA.upd).heap kN (tok_wr (HW.out.newer hU0) kN); clear kG cG fG; have hN1 := (HW.out.newer hU0).trans hA; clear hA; clear HW hU0 hz k0 c0 f0; have HW := Lib.hid hN1; clear hN1; have k0 := HW.out.blk; have hU0 := Upd.refl (fun k => w.heap.size ≤ k) w; have hz := Nat.le_refl w.heap.size; have c0 := cells_of k0; (try simp only [wrC, instC, nodeC, patC, zzT, zzO, zzS] at c0); have f0 := frees_of k0; have cN := cells_of kN; (try simp only [wrC, instC, nodeC, patC, zzT, zzO, zzS] at cN); have fN := frees_of kN))
      first | go_end0 | go_ret
      exact ⟨rfl, _, by rw [← HE.out]; exact HW.out⟩
    by_cases h14 : nop = 14
    · have HQ14 := Lib.hid HQ.out
      rw [if_neg h2, if_neg h3, if_neg h4, if_neg h5, if_neg h6, if_neg h7, if_neg h8, if_neg h9, if_pos h14] at HQ14
      subst h14
      clear h2 h3 h4 h5 h6 h7 h8 h9 HQ
      have HE := Lib.hid (Option.some.inj HQ14.out)
      clear HQ14
      go_enter Try.func45, Try.ntmps45
      go_wp2_with (first
          | ((with_reducible refine stopLd 113 _ rfl ?_); unfold Stop; refine wpList_load_blk rfl 113 _ rfl g (k * 11) rfl _ (nodeC ⟨14, ncc, nset, nmin, nmax, nlz, nnn, nks⟩ (.slice na nks.length nc)).toArray _ (0, 0) _ kG Try.underlying113 rfl HG.out (by kernel_rfl) ?_)
          | ((with_reducible refine stopAl 113 rfl ?_); unfold Stop; refine wpList_alloc_blk rfl 113 rfl (.agg #[.int .u8 0, .int .u8 0, .int .u64 0, .int .u64 0, .int .u64 0, .int .u64 0, .int .i64 0, .int .i64 0, .bool false, .int .i64 0, .slice none 0 0]) (by kernel_rfl) #[.int .u8 0, .int .u8 0, .int .u64 0, .int .u64 0, .int .u64 0, .int .u64 0, .int .i64 0, .int .i64 0, .bool false, .int .i64 0, .slice none 0 0] rfl ?_; intro bN wn hbn kn hUn hsn; clear c0 f0 cG fG; have l0N := heap_lt k0; rw [hbn] at l0N; replace k0 := hUn.heap k0 (fun h => h); have lGN := heap_lt kG; rw [hbn] at lGN; replace kG := hUn.heap kG (fun h => h); have gN : w.heap.size ≤ bN := Nat.le_trans hU0.size (Nat.le_of_eq hbn); have kN := kn; replace hU0 := hU0.then hUn (fun _ _ h => h.elim); replace hz : w.heap.size ≤ wn.heap.size := (by omega); clear kn hUn hsn hbn; have cN := cells_of kN; (try simp only [wrC, instC, nodeC, patC, zzT, zzO, zzS] at cN); have fN := frees_of kN; have c0 := cells_of k0; (try simp only [wrC, instC, nodeC, patC, zzT, zzO, zzS] at c0); have f0 := frees_of k0; have cG := cells_of kG; (try simp only [wrC, instC, nodeC, patC, zzT, zzO, zzS] at cG); have fG := frees_of kG)
          | ((with_reducible refine stopSt 113 _ _ rfl ?_); unfold Stop; refine wpList_store_blk rfl 113 _ _ rfl _ _ rfl _ (by go_simp; first | done | exact rfl) _ _ _ kN (zzB rfl) (by kernel_rfl) rfl (by simp only [spl, wrC, instC, nodeC, patC, Value.cells, zzT, zzO, zzS, Array.toList]; exact rfl) ?_; intro wn kn hUn hsn; clear cN fN c0 f0 cG fG; replace k0 := hUn.heap k0 (by omega); replace kG := hUn.heap kG (by omega); replace kN := kn; replace hU0 := hU0.then hUn (fun i hi (e : i = _) => by first | exact e | exact absurd hi (by omega) | (subst e; first | assumption | (show _ ≤ _; omega)) | exact .inl e | exact .inr e | exact .inr (.inl e) | exact .inr (.inr e)); replace hz := Nat.le_trans hz (Nat.le_of_eq hsn.symm); clear kn hUn hsn; have cN := cells_of kN; (try simp only [wrC, instC, nodeC, patC, zzT, zzO, zzS] at cN); have fN := frees_of kN; have c0 := cells_of k0; (try simp only [wrC, instC, nodeC, patC, zzT, zzO, zzS] at c0); have f0 := frees_of k0; have cG := cells_of kG; (try simp only [wrC, instC, nodeC, patC, zzT, zzO, zzS] at cG); have fG := frees_of kG)
          | (go_at_call 46; refine (lay_any (HW.out.newer hU0).again { op := 6, x := 20 } HOK.out.len).mono ?_; rintro e w ⟨rfl, cv1, hA⟩; clear cN fN; replace kN := (hA.upd).heap kN (tok_wr (HW.out.newer hU0) kN); clear kG cG fG; have hN1 := (HW.out.newer hU0).trans hA; clear hA; clear HW hU0 hz k0 c0 f0; have HW := Lib.hid hN1; clear hN1; have k0 := HW.out.blk; have hU0 := Upd.refl (fun k => w.heap.size ≤ k) w; have hz := Nat.le_refl w.heap.size; have c0 := cells_of k0; (try simp only [wrC, instC, nodeC, patC, zzT, zzO, zzS] at c0); have f0 := frees_of k0; have cN := cells_of kN; (try simp only [wrC, instC, nodeC, patC, zzT, zzO, zzS] at cN); have fN := frees_of kN))
      first | go_end0 | go_ret
      exact ⟨rfl, _, by rw [← HE.out]; exact HW.out⟩
    by_cases h15 : nop = 15
    · have HQ15 := Lib.hid HQ.out
      rw [if_neg h2, if_neg h3, if_neg h4, if_neg h5, if_neg h6, if_neg h7, if_neg h8, if_neg h9, if_neg h14, if_pos h15] at HQ15
      subst h15
      clear h2 h3 h4 h5 h6 h7 h8 h9 h14 HQ
      have HE := Lib.hid (Option.some.inj HQ15.out)
      clear HQ15
      go_enter Try.func45, Try.ntmps45
      go_wp2_with (first
          | ((with_reducible refine stopLd 113 _ rfl ?_); unfold Stop; refine wpList_load_blk rfl 113 _ rfl g (k * 11) rfl _ (nodeC ⟨15, ncc, nset, nmin, nmax, nlz, nnn, nks⟩ (.slice na nks.length nc)).toArray _ (0, 0) _ kG Try.underlying113 rfl HG.out (by kernel_rfl) ?_)
          | ((with_reducible refine stopAl 113 rfl ?_); unfold Stop; refine wpList_alloc_blk rfl 113 rfl (.agg #[.int .u8 0, .int .u8 0, .int .u64 0, .int .u64 0, .int .u64 0, .int .u64 0, .int .i64 0, .int .i64 0, .bool false, .int .i64 0, .slice none 0 0]) (by kernel_rfl) #[.int .u8 0, .int .u8 0, .int .u64 0, .int .u64 0, .int .u64 0, .int .u64 0, .int .i64 0, .int .i64 0, .bool false, .int .i64 0, .slice none 0 0] rfl ?_; intro bN wn hbn kn hUn hsn; clear c0 f0 cG fG; have l0N := heap_lt k0; rw [hbn] at l0N; replace k0 := hUn.heap k0 (fun h => h); have lGN := heap_lt kG; rw [hbn] at lGN; replace kG := hUn.heap kG (fun h => h); have gN : w.heap.size ≤ bN := Nat.le_trans hU0.size (Nat.le_of_eq hbn); have kN := kn; replace hU0 := hU0.then hUn (fun _ _ h => h.elim); replace hz : w.heap.size ≤ wn.heap.size := (by omega); clear kn hUn hsn hbn; have cN := cells_of kN; (try simp only [wrC, instC, nodeC, patC, zzT, zzO, zzS] at cN); have fN := frees_of kN; have c0 := cells_of k0; (try simp only [wrC, instC, nodeC, patC, zzT, zzO, zzS] at c0); have f0 := frees_of k0; have cG := cells_of kG; (try simp only [wrC, instC, nodeC, patC, zzT, zzO, zzS] at cG); have fG := frees_of kG)
          | ((with_reducible refine stopSt 113 _ _ rfl ?_); unfold Stop; refine wpList_store_blk rfl 113 _ _ rfl _ _ rfl _ (by go_simp; first | done | exact rfl) _ _ _ kN (zzB rfl) (by kernel_rfl) rfl (by simp only [spl, wrC, instC, nodeC, patC, Value.cells, zzT, zzO, zzS, Array.toList]; exact rfl) ?_; intro wn kn hUn hsn; clear cN fN c0 f0 cG fG; replace k0 := hUn.heap k0 (by omega); replace kG := hUn.heap kG (by omega); replace kN := kn; replace hU0 := hU0.then hUn (fun i hi (e : i = _) => by first | exact e | exact absurd hi (by omega) | (subst e; first | assumption | (show _ ≤ _; omega)) | exact .inl e | exact .inr e | exact .inr (.inl e) | exact .inr (.inr e)); replace hz := Nat.le_trans hz (Nat.le_of_eq hsn.symm); clear kn hUn hsn; have cN := cells_of kN; (try simp only [wrC, instC, nodeC, patC, zzT, zzO, zzS] at cN); have fN := frees_of kN; have c0 := cells_of k0; (try simp only [wrC, instC, nodeC, patC, zzT, zzO, zzS] at c0); have f0 := frees_of k0; have cG := cells_of kG; (try simp only [wrC, instC, nodeC, patC, zzT, zzO, zzS] at cG); have fG := frees_of kG)
          | (go_at_call 46; refine (lay_any (HW.out.newer hU0).again { op := 6, x := 21 } HOK.out.len).mono ?_; rintro e w ⟨rfl, cv1, hA⟩; clear cN fN; replace kN := (hA.upd).heap kN (tok_wr (HW.out.newer hU0) kN); clear kG cG fG; have hN1 := (HW.out.newer hU0).trans hA; clear hA; clear HW hU0 hz k0 c0 f0; have HW := Lib.hid hN1; clear hN1; have k0 := HW.out.blk; have hU0 := Upd.refl (fun k => w.heap.size ≤ k) w; have hz := Nat.le_refl w.heap.size; have c0 := cells_of k0; (try simp only [wrC, instC, nodeC, patC, zzT, zzO, zzS] at c0); have f0 := frees_of k0; have cN := cells_of kN; (try simp only [wrC, instC, nodeC, patC, zzT, zzO, zzS] at cN); have fN := frees_of kN))
      first | go_end0 | go_ret
      exact ⟨rfl, _, by rw [← HE.out]; exact HW.out⟩
    have g2 : (nop == 2) = false := by simpa using h2
    have g3 : (nop == 3) = false := by simpa using h3
    have g4 : (nop == 4) = false := by simpa using h4
    have g5 : (nop == 5) = false := by simpa using h5
    have g6 : (nop == 6) = false := by simpa using h6
    have g7 : (nop == 7) = false := by simpa using h7
    have g8 : (nop == 8) = false := by simpa using h8
    have g9 : (nop == 9) = false := by simpa using h9
    have g14 : (nop == 14) = false := by simpa using h14
    have g15 : (nop == 15) = false := by simpa using h15
    have HQ2 := Lib.hid HQ.out
    rw [if_neg h2, if_neg h3, if_neg h4, if_neg h5, if_neg h6, if_neg h7, if_neg h8, if_neg h9, if_neg h14, if_neg h15] at HQ2
    clear h2 h3 h4 h5 h6 h7 h8 h9 h14 h15 HQ
    by_cases hb : nop = 10 ∨ nop = 11 ∨ nop = 12 ∨ nop = 13
    · rw [if_pos hb] at HQ2
      have HE := Lib.hid (Option.some.inj HQ2.out)
      rcases hb with rfl | rfl | rfl | rfl
      · go_enter Try.func45, Try.ntmps45
        go_wp2_with (first
          | ((with_reducible refine stopLd 113 _ rfl ?_); unfold Stop; refine wpList_load_blk rfl 113 _ rfl g (k * 11) rfl _ (nodeC ⟨10, ncc, nset, nmin, nmax, nlz, nnn, nks⟩ (.slice na nks.length nc)).toArray _ (0, 0) _ kG Try.underlying113 rfl HG.out (by kernel_rfl) ?_)
          | ((with_reducible refine stopAl 113 rfl ?_); unfold Stop; refine wpList_alloc_blk rfl 113 rfl (.agg #[.int .u8 0, .int .u8 0, .int .u64 0, .int .u64 0, .int .u64 0, .int .u64 0, .int .i64 0, .int .i64 0, .bool false, .int .i64 0, .slice none 0 0]) (by kernel_rfl) #[.int .u8 0, .int .u8 0, .int .u64 0, .int .u64 0, .int .u64 0, .int .u64 0, .int .i64 0, .int .i64 0, .bool false, .int .i64 0, .slice none 0 0] rfl ?_; intro bN wn hbn kn hUn hsn; clear c0 f0 cG fG; have l0N := heap_lt k0; rw [hbn] at l0N; replace k0 := hUn.heap k0 (fun h => h); have lGN := heap_lt kG; rw [hbn] at lGN; replace kG := hUn.heap kG (fun h => h); have gN : w.heap.size ≤ bN := Nat.le_trans hU0.size (Nat.le_of_eq hbn); have kN := kn; replace hU0 := hU0.then hUn (fun _ _ h => h.elim); replace hz : w.heap.size ≤ wn.heap.size := (by omega); clear kn hUn hsn hbn; have cN := cells_of kN; (try simp only [wrC, instC, nodeC, patC, zzT, zzO, zzS] at cN); have fN := frees_of kN; have c0 := cells_of k0; (try simp only [wrC, instC, nodeC, patC, zzT, zzO, zzS] at c0); have f0 := frees_of k0; have cG := cells_of kG; (try simp only [wrC, instC, nodeC, patC, zzT, zzO, zzS] at cG); have fG := frees_of kG)
          | ((with_reducible refine stopSt 113 _ _ rfl ?_); unfold Stop; refine wpList_store_blk rfl 113 _ _ rfl _ _ rfl _ (by go_simp; first | done | exact rfl) _ _ _ kN (zzB rfl) (by kernel_rfl) rfl (by simp only [spl, wrC, instC, nodeC, patC, Value.cells, zzT, zzO, zzS, Array.toList]; exact rfl) ?_; intro wn kn hUn hsn; clear cN fN c0 f0 cG fG; replace k0 := hUn.heap k0 (by omega); replace kG := hUn.heap kG (by omega); replace kN := kn; replace hU0 := hU0.then hUn (fun i hi (e : i = _) => by first | exact e | exact absurd hi (by omega) | (subst e; first | assumption | (show _ ≤ _; omega)) | exact .inl e | exact .inr e | exact .inr (.inl e) | exact .inr (.inr e)); replace hz := Nat.le_trans hz (Nat.le_of_eq hsn.symm); clear kn hUn hsn; have cN := cells_of kN; (try simp only [wrC, instC, nodeC, patC, zzT, zzO, zzS] at cN); have fN := frees_of kN; have c0 := cells_of k0; (try simp only [wrC, instC, nodeC, patC, zzT, zzO, zzS] at c0); have f0 := frees_of k0; have cG := cells_of kG; (try simp only [wrC, instC, nodeC, patC, zzT, zzO, zzS] at cG); have fG := frees_of kG)
          | (go_at_call 46; refine (lay_any (HW.out.newer hU0).again { op := 8 } HOK.out.len).mono ?_; rintro e w ⟨rfl, cv1, hA⟩; clear cN fN; replace kN := (hA.upd).heap kN (tok_wr (HW.out.newer hU0) kN); clear kG cG fG; have hN1 := (HW.out.newer hU0).trans hA; clear hA; clear HW hU0 hz k0 c0 f0; have HW := Lib.hid hN1; clear hN1; have k0 := HW.out.blk; have hU0 := Upd.refl (fun k => w.heap.size ≤ k) w; have hz := Nat.le_refl w.heap.size; have c0 := cells_of k0; (try simp only [wrC, instC, nodeC, patC, zzT, zzO, zzS] at c0); have f0 := frees_of k0; have cN := cells_of kN; (try simp only [wrC, instC, nodeC, patC, zzT, zzO, zzS] at cN); have fN := frees_of kN))
        first | go_end0 | go_ret
        exact ⟨rfl, _, by rw [← HE.out]; exact HW.out⟩
      · go_enter Try.func45, Try.ntmps45
        go_wp2_with (first
          | ((with_reducible refine stopLd 113 _ rfl ?_); unfold Stop; refine wpList_load_blk rfl 113 _ rfl g (k * 11) rfl _ (nodeC ⟨11, ncc, nset, nmin, nmax, nlz, nnn, nks⟩ (.slice na nks.length nc)).toArray _ (0, 0) _ kG Try.underlying113 rfl HG.out (by kernel_rfl) ?_)
          | ((with_reducible refine stopAl 113 rfl ?_); unfold Stop; refine wpList_alloc_blk rfl 113 rfl (.agg #[.int .u8 0, .int .u8 0, .int .u64 0, .int .u64 0, .int .u64 0, .int .u64 0, .int .i64 0, .int .i64 0, .bool false, .int .i64 0, .slice none 0 0]) (by kernel_rfl) #[.int .u8 0, .int .u8 0, .int .u64 0, .int .u64 0, .int .u64 0, .int .u64 0, .int .i64 0, .int .i64 0, .bool false, .int .i64 0, .slice none 0 0] rfl ?_; intro bN wn hbn kn hUn hsn; clear c0 f0 cG fG; have l0N := heap_lt k0; rw [hbn] at l0N; replace k0 := hUn.heap k0 (fun h => h); have lGN := heap_lt kG; rw [hbn] at lGN; replace kG := hUn.heap kG (fun h => h); have gN : w.heap.size ≤ bN := Nat.le_trans hU0.size (Nat.le_of_eq hbn); have kN := kn; replace hU0 := hU0.then hUn (fun _ _ h => h.elim); replace hz : w.heap.size ≤ wn.heap.size := (by omega); clear kn hUn hsn hbn; have cN := cells_of kN; (try simp only [wrC, instC, nodeC, patC, zzT, zzO, zzS] at cN); have fN := frees_of kN; have c0 := cells_of k0; (try simp only [wrC, instC, nodeC, patC, zzT, zzO, zzS] at c0); have f0 := frees_of k0; have cG := cells_of kG; (try simp only [wrC, instC, nodeC, patC, zzT, zzO, zzS] at cG); have fG := frees_of kG)
          | ((with_reducible refine stopSt 113 _ _ rfl ?_); unfold Stop; refine wpList_store_blk rfl 113 _ _ rfl _ _ rfl _ (by go_simp; first | done | exact rfl) _ _ _ kN (zzB rfl) (by kernel_rfl) rfl (by simp only [spl, wrC, instC, nodeC, patC, Value.cells, zzT, zzO, zzS, Array.toList]; exact rfl) ?_; intro wn kn hUn hsn; clear cN fN c0 f0 cG fG; replace k0 := hUn.heap k0 (by omega); replace kG := hUn.heap kG (by omega); replace kN := kn; replace hU0 := hU0.then hUn (fun i hi (e : i = _) => by first | exact e | exact absurd hi (by omega) | (subst e; first | assumption | (show _ ≤ _; omega)) | exact .inl e | exact .inr e | exact .inr (.inl e) | exact .inr (.inr e)); replace hz := Nat.le_trans hz (Nat.le_of_eq hsn.symm); clear kn hUn hsn; have cN := cells_of kN; (try simp only [wrC, instC, nodeC, patC, zzT, zzO, zzS] at cN); have fN := frees_of kN; have c0 := cells_of k0; (try simp only [wrC, instC, nodeC, patC, zzT, zzO, zzS] at c0); have f0 := frees_of k0; have cG := cells_of kG; (try simp only [wrC, instC, nodeC, patC, zzT, zzO, zzS] at cG); have fG := frees_of kG)
          | (go_at_call 46; refine (lay_any (HW.out.newer hU0).again { op := 9 } HOK.out.len).mono ?_; rintro e w ⟨rfl, cv1, hA⟩; clear cN fN; replace kN := (hA.upd).heap kN (tok_wr (HW.out.newer hU0) kN); clear kG cG fG; have hN1 := (HW.out.newer hU0).trans hA; clear hA; clear HW hU0 hz k0 c0 f0; have HW := Lib.hid hN1; clear hN1; have k0 := HW.out.blk; have hU0 := Upd.refl (fun k => w.heap.size ≤ k) w; have hz := Nat.le_refl w.heap.size; have c0 := cells_of k0; (try simp only [wrC, instC, nodeC, patC, zzT, zzO, zzS] at c0); have f0 := frees_of k0; have cN := cells_of kN; (try simp only [wrC, instC, nodeC, patC, zzT, zzO, zzS] at cN); have fN := frees_of kN))
        first | go_end0 | go_ret
        exact ⟨rfl, _, by rw [← HE.out]; exact HW.out⟩
      · go_enter Try.func45, Try.ntmps45
        go_wp2_with (first
          | ((with_reducible refine stopLd 113 _ rfl ?_); unfold Stop; refine wpList_load_blk rfl 113 _ rfl g (k * 11) rfl _ (nodeC ⟨12, ncc, nset, nmin, nmax, nlz, nnn, nks⟩ (.slice na nks.length nc)).toArray _ (0, 0) _ kG Try.underlying113 rfl HG.out (by kernel_rfl) ?_)
          | ((with_reducible refine stopAl 113 rfl ?_); unfold Stop; refine wpList_alloc_blk rfl 113 rfl (.agg #[.int .u8 0, .int .u8 0, .int .u64 0, .int .u64 0, .int .u64 0, .int .u64 0, .int .i64 0, .int .i64 0, .bool false, .int .i64 0, .slice none 0 0]) (by kernel_rfl) #[.int .u8 0, .int .u8 0, .int .u64 0, .int .u64 0, .int .u64 0, .int .u64 0, .int .i64 0, .int .i64 0, .bool false, .int .i64 0, .slice none 0 0] rfl ?_; intro bN wn hbn kn hUn hsn; clear c0 f0 cG fG; have l0N := heap_lt k0; rw [hbn] at l0N; replace k0 := hUn.heap k0 (fun h => h); have lGN := heap_lt kG; rw [hbn] at lGN; replace kG := hUn.heap kG (fun h => h); have gN : w.heap.size ≤ bN := Nat.le_trans hU0.size (Nat.le_of_eq hbn); have kN := kn; replace hU0 := hU0.then hUn (fun _ _ h => h.elim); replace hz : w.heap.size ≤ wn.heap.size := (by omega); clear kn hUn hsn hbn; have cN := cells_of kN; (try simp only [wrC, instC, nodeC, patC, zzT, zzO, zzS] at cN); have fN := frees_of kN; have c0 := cells_of k0; (try simp only [wrC, instC, nodeC, patC, zzT, zzO, zzS] at c0); have f0 := frees_of k0; have cG := cells_of kG; (try simp only [wrC, instC, nodeC, patC, zzT, zzO, zzS] at cG); have fG := frees_of kG)
          | ((with_reducible refine stopSt 113 _ _ rfl ?_); unfold Stop; refine wpList_store_blk rfl 113 _ _ rfl _ _ rfl _ (by go_simp; first | done | exact rfl) _ _ _ kN (zzB rfl) (by kernel_rfl) rfl (by simp only [spl, wrC, instC, nodeC, patC, Value.cells, zzT, zzO, zzS, Array.toList]; exact rfl) ?_; intro wn kn hUn hsn; clear cN fN c0 f0 cG fG; replace k0 := hUn.heap k0 (by omega); replace kG := hUn.heap kG (by omega); replace kN := kn; replace hU0 := hU0.then hUn (fun i hi (e : i = _) => by first | exact e | exact absurd hi (by omega) | (subst e; first | assumption | (show _ ≤ _; omega)) | exact .inl e | exact .inr e | exact .inr (.inl e) | exact .inr (.inr e)); replace hz := Nat.le_trans hz (Nat.le_of_eq hsn.symm); clear kn hUn hsn; have cN := cells_of kN; (try simp only [wrC, instC, nodeC, patC, zzT, zzO, zzS] at cN); have fN := frees_of kN; have c0 := cells_of k0; (try simp only [wrC, instC, nodeC, patC, zzT, zzO, zzS] at c0); have f0 := frees_of k0; have cG := cells_of kG; (try simp only [wrC, instC, nodeC, patC, zzT, zzO, zzS] at cG); have fG := frees_of kG)
          | (go_at_call 46; refine (lay_any (HW.out.newer hU0).again { op := 10 } HOK.out.len).mono ?_; rintro e w ⟨rfl, cv1, hA⟩; clear cN fN; replace kN := (hA.upd).heap kN (tok_wr (HW.out.newer hU0) kN); clear kG cG fG; have hN1 := (HW.out.newer hU0).trans hA; clear hA; clear HW hU0 hz k0 c0 f0; have HW := Lib.hid hN1; clear hN1; have k0 := HW.out.blk; have hU0 := Upd.refl (fun k => w.heap.size ≤ k) w; have hz := Nat.le_refl w.heap.size; have c0 := cells_of k0; (try simp only [wrC, instC, nodeC, patC, zzT, zzO, zzS] at c0); have f0 := frees_of k0; have cN := cells_of kN; (try simp only [wrC, instC, nodeC, patC, zzT, zzO, zzS] at cN); have fN := frees_of kN))
        first | go_end0 | go_ret
        exact ⟨rfl, _, by rw [← HE.out]; exact HW.out⟩
      · go_enter Try.func45, Try.ntmps45
        go_wp2_with (first
          | ((with_reducible refine stopLd 113 _ rfl ?_); unfold Stop; refine wpList_load_blk rfl 113 _ rfl g (k * 11) rfl _ (nodeC ⟨13, ncc, nset, nmin, nmax, nlz, nnn, nks⟩ (.slice na nks.length nc)).toArray _ (0, 0) _ kG Try.underlying113 rfl HG.out (by kernel_rfl) ?_)
          | ((with_reducible refine stopAl 113 rfl ?_); unfold Stop; refine wpList_alloc_blk rfl 113 rfl (.agg #[.int .u8 0, .int .u8 0, .int .u64 0, .int .u64 0, .int .u64 0, .int .u64 0, .int .i64 0, .int .i64 0, .bool false, .int .i64 0, .slice none 0 0]) (by kernel_rfl) #[.int .u8 0, .int .u8 0, .int .u64 0, .int .u64 0, .int .u64 0, .int .u64 0, .int .i64 0, .int .i64 0, .bool false, .int .i64 0, .slice none 0 0] rfl ?_; intro bN wn hbn kn hUn hsn; clear c0 f0 cG fG; have l0N := heap_lt k0; rw [hbn] at l0N; replace k0 := hUn.heap k0 (fun h => h); have lGN := heap_lt kG; rw [hbn] at lGN; replace kG := hUn.heap kG (fun h => h); have gN : w.heap.size ≤ bN := Nat.le_trans hU0.size (Nat.le_of_eq hbn); have kN := kn; replace hU0 := hU0.then hUn (fun _ _ h => h.elim); replace hz : w.heap.size ≤ wn.heap.size := (by omega); clear kn hUn hsn hbn; have cN := cells_of kN; (try simp only [wrC, instC, nodeC, patC, zzT, zzO, zzS] at cN); have fN := frees_of kN; have c0 := cells_of k0; (try simp only [wrC, instC, nodeC, patC, zzT, zzO, zzS] at c0); have f0 := frees_of k0; have cG := cells_of kG; (try simp only [wrC, instC, nodeC, patC, zzT, zzO, zzS] at cG); have fG := frees_of kG)
          | ((with_reducible refine stopSt 113 _ _ rfl ?_); unfold Stop; refine wpList_store_blk rfl 113 _ _ rfl _ _ rfl _ (by go_simp; first | done | exact rfl) _ _ _ kN (zzB rfl) (by kernel_rfl) rfl (by simp only [spl, wrC, instC, nodeC, patC, Value.cells, zzT, zzO, zzS, Array.toList]; exact rfl) ?_; intro wn kn hUn hsn; clear cN fN c0 f0 cG fG; replace k0 := hUn.heap k0 (by omega); replace kG := hUn.heap kG (by omega); replace kN := kn; replace hU0 := hU0.then hUn (fun i hi (e : i = _) => by first | exact e | exact absurd hi (by omega) | (subst e; first | assumption | (show _ ≤ _; omega)) | exact .inl e | exact .inr e | exact .inr (.inl e) | exact .inr (.inr e)); replace hz := Nat.le_trans hz (Nat.le_of_eq hsn.symm); clear kn hUn hsn; have cN := cells_of kN; (try simp only [wrC, instC, nodeC, patC, zzT, zzO, zzS] at cN); have fN := frees_of kN; have c0 := cells_of k0; (try simp only [wrC, instC, nodeC, patC, zzT, zzO, zzS] at c0); have f0 := frees_of k0; have cG := cells_of kG; (try simp only [wrC, instC, nodeC, patC, zzT, zzO, zzS] at cG); have fG := frees_of kG)
          | (go_at_call 46; refine (lay_any (HW.out.newer hU0).again { op := 11 } HOK.out.len).mono ?_; rintro e w ⟨rfl, cv1, hA⟩; clear cN fN; replace kN := (hA.upd).heap kN (tok_wr (HW.out.newer hU0) kN); clear kG cG fG; have hN1 := (HW.out.newer hU0).trans hA; clear hA; clear HW hU0 hz k0 c0 f0; have HW := Lib.hid hN1; clear hN1; have k0 := HW.out.blk; have hU0 := Upd.refl (fun k => w.heap.size ≤ k) w; have hz := Nat.le_refl w.heap.size; have c0 := cells_of k0; (try simp only [wrC, instC, nodeC, patC, zzT, zzO, zzS] at c0); have f0 := frees_of k0; have cN := cells_of kN; (try simp only [wrC, instC, nodeC, patC, zzT, zzO, zzS] at cN); have fN := frees_of kN))
        first | go_end0 | go_ret
        exact ⟨rfl, _, by rw [← HE.out]; exact HW.out⟩
    · rw [if_neg hb] at HQ2
      have HE := Lib.hid (Option.some.inj HQ2.out)
      have g10 : (nop == 10) = false := by simp; omega
      have g11 : (nop == 11) = false := by simp; omega
      have g12 : (nop == 12) = false := by simp; omega
      have g13 : (nop == 13) = false := by simp; omega
      clear hb
      go_enter Try.func45, Try.ntmps45
      go_wp2_with (first
    | ((with_reducible refine stopLd 113 _ rfl ?_); unfold Stop; refine wpList_load_blk rfl 113 _ rfl g (k * 11) rfl _ (nodeC ⟨nop, ncc, nset, nmin, nmax, nlz, nnn, nks⟩ (.slice na nks.length nc)).toArray _ (0, 0) _ kG Try.underlying113 rfl HG.out (by kernel_rfl) ?_)
    | ((with_reducible refine stopAl 113 rfl ?_); unfold Stop; refine wpList_alloc_blk rfl 113 rfl (.agg #[.int .u8 0, .int .u8 0, .int .u64 0, .int .u64 0, .int .u64 0, .int .u64 0, .int .i64 0, .int .i64 0, .bool false, .int .i64 0, .slice none 0 0]) (by kernel_rfl) #[.int .u8 0, .int .u8 0, .int .u64 0, .int .u64 0, .int .u64 0, .int .u64 0, .int .i64 0, .int .i64 0, .bool false, .int .i64 0, .slice none 0 0] rfl ?_; intro bN wn hbn kn hUn hsn; clear c0 f0 cG fG; have l0N := heap_lt k0; rw [hbn] at l0N; replace k0 := hUn.heap k0 (fun h => h); have lGN := heap_lt kG; rw [hbn] at lGN; replace kG := hUn.heap kG (fun h => h); have gN : w.heap.size ≤ bN := Nat.le_trans hU0.size (Nat.le_of_eq hbn); have kN := kn; replace hU0 := hU0.then hUn (fun _ _ h => h.elim); replace hz : w.heap.size ≤ wn.heap.size := (by omega); clear kn hUn hsn hbn; have cN := cells_of kN; (try simp only [wrC, instC, nodeC, patC, zzT, zzO, zzS] at cN); have fN := frees_of kN; have c0 := cells_of k0; (try simp only [wrC, instC, nodeC, patC, zzT, zzO, zzS] at c0); have f0 := frees_of k0; have cG := cells_of kG; (try simp only [wrC, instC, nodeC, patC, zzT, zzO, zzS] at cG); have fG := frees_of kG)
    | ((with_reducible refine stopSt 113 _ _ rfl ?_); unfold Stop; refine wpList_store_blk rfl 113 _ _ rfl _ _ rfl _ (by go_simp; first | done | exact rfl) _ _ _ kN (zzB rfl) (by kernel_rfl) rfl (by simp only [spl, wrC, instC, nodeC, patC, Value.cells, zzT, zzO, zzS, Array.toList]; exact rfl) ?_; intro wn kn hUn hsn; clear cN fN c0 f0 cG fG; replace k0 := hUn.heap k0 (by omega); replace kG := hUn.heap kG (by omega); replace kN := kn; replace hU0 := hU0.then hUn (fun i hi (e : i = _) => by first | exact e | exact absurd hi (by omega) | (subst e; first | assumption | (show _ ≤ _; omega)) | exact .inl e | exact .inr e | exact .inr (.inl e) | exact .inr (.inr e)); replace hz := Nat.le_trans hz (Nat.le_of_eq hsn.symm); clear kn hUn hsn; have cN := cells_of kN; (try simp only [wrC, instC, nodeC, patC, zzT, zzO, zzS] at cN); have fN := frees_of kN; have c0 := cells_of k0; (try simp only [wrC, instC, nodeC, patC, zzT, zzO, zzS] at c0); have f0 := frees_of k0; have cG := cells_of kG; (try simp only [wrC, instC, nodeC, patC, zzT, zzO, zzS] at cG); have fG := frees_of kG))
      first | go_end0 | go_ret
      exact ⟨rfl, _, by rw [← HE.out]; exact HW.out.newer hU0⟩
  · rw [if_pos hlg] at hq
    have HE := Lib.hid (Option.some.inj hq)
    simp only [hlg] at c0
    clear h hq hlg hno hG hkv hrec hrs hok
    go_enter Try.func45, Try.ntmps45
    go_wp2
    first | go_end0 | go_ret
    exact ⟨rfl, _, by rw [← HE.out]; exact HW.out⟩
end Go.Proofs.Ytigbfgmgdfnhcaa
