/- Lemmas that the law's proof stands on, part 17: PatV, Tot. No condition. -/
import Derived.Test.YtigbfgmgdfnhcaaBaseA0
import Derived.Test.YtigbfgmgdfnhcaaBaseA16
set_option linter.all false
set_option linter.unusedVariables false
set_option linter.unusedSimpArgs false
namespace Go.Proofs.Ytigbfgmgdfnhcaa
open Go.RowKit
theorem branches_rec (s : ByteArray) (hs : s.size ≤ 900) : ∀ d, RecC s (branchesF s.data.toList d true)
  | 0 => fun B rb st nv kvs Z w k st2 h hB hl hq => by unfold branchesF at hq; cases hq
  | d + 1 => fun B rb st nv kvs Z w k st2 h hB hl hq => by
    have hL : s.data.toList.length = s.size := by simp
    unfold branchesF at hq
    split at hq
    · cases hq
    · rename_i k1 s1 h1
      split at hq
      · cases hq
      · rename_i sE kE h2
        rw [hL] at h2
        exact branches_step h hB _ (branches_rec s hs d) (bss_nodes _ true d) hs hl true k k1 s1 st2 sE kE h1 h2 (Option.some.inj hq)
theorem branches_top {B rb : Nat} {s : ByteArray} {st : RdD} {nv : Value} {kvs : List Value} {Z : Nat → Prop} {w : World} {d : Nat} (h : RdAt w B rb s st nv kvs Z) (hB : B ≤ w.heap.size) (hs : s.size ≤ 900) (hl : st.nodes.length ≤ 401) (k : Nat) (st2 : RdD)
    (hq : branchesF s.data.toList (d + 1) false st = some (k, st2)) : Calls Try.prog 43 #[.pointer (some ⟨rb, 0, none⟩), .bool false] w (BrPost w B rb s nv Z k st2) := by
  have hL : s.data.toList.length = s.size := by simp
  unfold branchesF at hq
  split at hq
  · cases hq
  · rename_i k1 s1 h1
    split at hq
    · cases hq
    · rename_i sE kE h2
      rw [hL] at h2
      exact branches_step h hB _ (branches_rec s hs d) (bss_nodes _ true d) hs hl false k k1 s1 st2 sE kE h1 h2 (Option.some.inj hq)
theorem rd_form {w : World} {B rb : Nat} {s : ByteArray} {st : RdD} {nv : Value} {kvs : List Value} {Z : Nat → Prop} (h : RdAt w B rb s st nv kvs Z) : ∃ a c, nv = .slice a st.nodes.length c := by
  rcases h.own.2 with ⟨rfl, h0⟩ | ⟨g, cap, cur, rfl, _⟩
  · exact ⟨none, 0, by rw [h0]⟩
  · exact ⟨_, cap, rfl⟩
/-- A pattern's nodes in memory. -/
structure PatAt (w : World) (nv : Value) (kvs : List Value) (ns : List NodeD) : Prop where
  own : w.ownsRow 0 113 11 nv ns.length (nodesC ns kvs)
  len : ns.length = kvs.length
  kids : ∀ i (h : i < ns.length) (h2 : i < kvs.length), NatsAt w kvs[i] ns[i].kids ∧ ∀ g, kvs[i].ownBlock = some g → g < w.heap.size
theorem PatAt.newer {w w' : World} {nv : Value} {kvs : List Value} {ns : List NodeD} (h : PatAt w nv kvs ns) (hu : Upd (fun k => w.heap.size ≤ k) w w') : PatAt w' nv kvs ns :=
  ⟨ownsRow_upd h.own hu (fun g hg => by have := (h.own.lt g hg).2; omega), h.len, fun i h1 h2 => ⟨(h.kids i h1 h2).1.upd hu (fun g hg => by have := (h.kids i h1 h2).2 g hg; omega), fun g hg => Nat.lt_of_lt_of_le ((h.kids i h1 h2).2 g hg) hu.size⟩⟩
theorem PatAt.none (w : World) : PatAt w (.slice none 0 0) [] [] := ⟨⟨rfl, .inl ⟨rfl, rfl⟩⟩, rfl, fun i h => by simp at h⟩
theorem patAt_of {w w' : World} {B rb : Nat} {s : ByteArray} {st : RdD} {nv : Value} {kvs : List Value} {Z : Nat → Prop} {F : Nat → Prop} (h : RdAt w B rb s st nv kvs Z) (hu : Upd F w w') (h2 : ∀ g, nv.ownBlock = some g → ¬ F g) (h3 : ∀ g, Z g → ¬ F g) : PatAt w' nv kvs st.nodes := by
  refine ⟨ownsRow_base (ownsRow_upd h.own hu h2) (fun g _ => Nat.zero_le _), h.len, fun i g1 g2 => ?_⟩
  obtain ⟨g3, g4⟩ := h.kids i g1 g2
  refine ⟨g3.upd hu (fun g hg => h3 g (g4 g hg)), fun g hg => ?_⟩
  exact Nat.lt_of_lt_of_le (h.lts.2.2 g (g4 g hg)) hu.size
theorem not_old {b0 bP : Nat} (h : bP < b0) : ¬ (bP = b0 ∨ (Value.slice none 0 0).ownBlock = some bP) := fun e => e.elim (fun e => by omega) (fun e => by simp [Value.ownBlock] at e)
theorem nil_new {w : World} {b0 : Nat} (g0 : w.heap.size ≤ b0) : ∀ i, i < w.heap.size → (i = b0 ∨ (Value.slice none 0 0).ownBlock = some i) → False := fun i hi e => e.elim (fun e => by omega) (fun e => by simp [Value.ownBlock] at e)
def patC (p : PatD) (nv : Value) : Array Value := #[nv, .int .i64 p.root, .int .i64 p.groups, .int .u8 p.case]
def ParsePost (w : World) (p : PatD) (er : Int) (pl : Nat) (e : Ending) (w' : World) : Prop :=
  ∃ nv kvs, e = .returned (.tuple #[.agg (patC p nv), .int .i64 er, .int .i64 (pl : Nat)]) ∧ PatAt w' nv kvs p.nodes ∧ Upd (fun _ => False) w w'
set_option maxRecDepth 100000 in
set_option maxHeartbeats 8000000 in
theorem parse_any (s : ByteArray) (w : World) (p : PatD) (er : Int) (pl : Nat) (hs0 : s.size ≤ 140737488351232) (hq : parseF s.data.toList = some (p, er, pl)) :
    Calls Try.prog 28 #[.string s, .string ⟨#[]⟩] w (ParsePost w p er pl) := by
  have hL : s.data.toList.length = s.size := by simp
  have hU0 := Upd.refl (fun _ => False) w
  have hz := Nat.le_refl w.heap.size
  unfold parseF at hq
  rw [hL] at hq
  by_cases h300 : 300 < s.size
  · rw [if_pos h300] at hq
    have e := Option.some.inj hq
    simp only [Prod.mk.injEq] at e
    obtain ⟨rfl, rfl, rfl⟩ := e
    clear hq hL
    have g3 : (300 : Int) < (s.size : Int) := by omega
    go_enter Try.func28, Try.ntmps28
    go_wp2_with (first
      | ((with_reducible refine stopAl 69 rfl ?_); unfold Stop; refine wpList_alloc_blk rfl 69 rfl (.agg #[.slice none 0 0, .int .i64 0, .int .i64 0, .int .u8 0]) (by kernel_rfl) #[.slice none 0 0, .int .i64 0, .int .i64 0, .int .u8 0] rfl ?_; intro bP wn hbn kn hUn hsn; have gP : w.heap.size ≤ bP := Nat.le_trans hU0.size (Nat.le_of_eq hbn); have kP := kn; replace hU0 := hU0.then hUn (fun _ _ h => h.elim); replace hz : w.heap.size ≤ wn.heap.size := (by omega); clear kn hUn hsn hbn; have cP := cells_of kP; (try simp only [rdC, nodeC, tokC, setC, zzT, zzO, zzS] at cP); have fP := frees_of kP)
      | ((with_reducible refine stopSt 69 _ _ rfl ?_); unfold Stop; refine wpList_store_blk rfl 69 _ _ rfl _ _ rfl _ (by go_simp; first | done | exact rfl) _ _ _ kP (zzB rfl) (by kernel_rfl) rfl (by simp only [spl, rdC, nodeC, tokC, setC, Value.cells, zzT, zzO, zzS, Array.toList]; exact rfl) ?_; intro wn kn hUn hsn; clear cP fP; replace kP := kn; replace hU0 := hU0.then hUn (fun i hi (e : i = _) => by first | exact e | exact absurd hi (by omega) | (subst e; first | assumption | (show _ ≤ _; omega)) | exact .inl e | exact .inr e | exact .inr (.inl e) | exact .inr (.inr e)); replace hz := Nat.le_trans hz (Nat.le_of_eq hsn.symm); clear kn hUn hsn; have cP := cells_of kP; (try simp only [rdC, nodeC, tokC, setC, zzT, zzO, zzS] at cP); have fP := frees_of kP))
    exact bodyPost_ret (v := .tuple #[.agg _, .int .i64 33, .int .i64 0]) (results_blk_tmp2 Try.results28 _ _ bP 69 _ (0, 0) _ rfl kP Try.underlying69 rfl (by kernel_rfl)) rfl ⟨.slice none 0 0, [], rfl, PatAt.none _, hU0⟩
  · rw [if_neg h300] at hq
    have g3 : ¬ (300 : Int) < (s.size : Int) := by omega
    cases hb : branchesF s.data.toList 11 false .start with
    | none => rw [hb] at hq; cases hq
    | some q =>
      obtain ⟨k, r⟩ := q
      rw [hb] at hq
      simp only [] at hq
      have HBR := Lib.hid hb
      have HQ := Lib.hid hq
      have hs : s.size ≤ 300 := by omega
      clear hb hq h300 hL
      by_cases he : r.err = 0
      · have ge : (r.err != 0) = false := by simpa using he
        by_cases h4 : 400 < r.nodes.length
        · have g4 : (400 : Int) < (r.nodes.length : Int) := by omega
          have e := HQ.out
          rw [if_neg (fun h => h he), if_pos h4] at e
          have e := Option.some.inj e
          simp only [Prod.mk.injEq] at e
          obtain ⟨rfl, rfl, rfl⟩ := e
          clear he h4 HQ
          go_enter Try.func28, Try.ntmps28
          go_wp2_with (first
            | ((with_reducible refine stopAl 69 rfl ?_); unfold Stop; refine wpList_alloc_blk rfl 69 rfl (.agg #[.slice none 0 0, .int .i64 0, .int .i64 0, .int .u8 0]) (by kernel_rfl) #[.slice none 0 0, .int .i64 0, .int .i64 0, .int .u8 0] rfl ?_; intro bP wn hbn kn hUn hsn; have gP : w.heap.size ≤ bP := Nat.le_trans hU0.size (Nat.le_of_eq hbn); have kP := kn; replace hU0 := hU0.then hUn (fun _ _ h => h.elim); replace hz : w.heap.size ≤ wn.heap.size := (by omega); clear kn hUn hsn hbn; have cP := cells_of kP; (try simp only [rdC, nodeC, tokC, setC, zzT, zzO, zzS] at cP); have fP := frees_of kP)
            | ((with_reducible refine stopBx 96 _ rfl ?_); unfold Stop; refine wpList_box_blk rfl 96 _ rfl _ (by go_simp; first | done | exact rfl) (rdC s RdD.start (.slice none 0 0)) rfl ?_; intro b0 wn hbn kn hUn hsn; clear cP fP; have lP0 := heap_lt kP; rw [hbn] at lP0; replace kP := hUn.heap kP (fun h => h); have g0 : w.heap.size ≤ b0 := Nat.le_trans hU0.size (Nat.le_of_eq hbn); have k0 := kn; replace hU0 := hU0.then hUn (fun _ _ h => h.elim); replace hz : w.heap.size ≤ wn.heap.size := (by omega); have hR0 : RdAt wn w.heap.size b0 s .start (.slice none 0 0) [] (fun _ => False) := ⟨g0, kn, ⟨rfl, .inl ⟨rfl, rfl⟩⟩, rfl, fun i h => absurd h (Nat.not_lt_zero i), fun _ h => h.elim, rfl⟩; have HR0 := Lib.hid hR0; clear hR0; clear kn hUn hsn hbn; have c0 := cells_of k0; (try simp only [rdC, nodeC, tokC, setC, zzT, zzO, zzS] at c0); have f0 := frees_of k0; have cP := cells_of kP; (try simp only [rdC, nodeC, tokC, setC, zzT, zzO, zzS] at cP); have fP := frees_of kP)
            | (go_at_call 43; refine (branches_top HR0.out hz (by omega) (by simp [RdD.start]) _ _ HBR.out).mono ?_; rintro e w2 ⟨rfl, hT⟩; clear c0 f0 cP fP k0; replace kP := (RdTo.upd hT).heap kP (not_old lP0); obtain ⟨nv1, kvs1, Z1, hR1, hu1, hn1, hz1, hz2⟩ := hT; have hsz1 := hu1.size; replace hz := Nat.le_trans hz hsz1; replace hU0 := hU0.then hu1 (nil_new g0); have HR1 := Lib.hid hR1; have k0 := hR1.blk; clear hu1 hn1 hz1 hz2 hsz1; obtain ⟨na, nc, hnv⟩ := rd_form hR1; clear hR1; have HNV := Lib.hid hnv; rw [hnv] at k0; clear hnv; have c0 := cells_of k0; (try simp only [rdC, nodeC, tokC, setC, zzT, zzO, zzS] at c0); have f0 := frees_of k0; have cP := cells_of kP; (try simp only [rdC, nodeC, tokC, setC, zzT, zzO, zzS] at cP); have fP := frees_of kP)
            | ((with_reducible refine stopSt 69 _ _ rfl ?_); unfold Stop; refine wpList_store_blk rfl 69 _ _ rfl _ _ rfl _ (by go_simp; first | done | exact rfl) _ _ _ kP (zzB rfl) (by kernel_rfl) rfl (by simp only [spl, rdC, nodeC, tokC, setC, Value.cells, zzT, zzO, zzS, Array.toList]; exact rfl) ?_; intro wn kn hUn hsn; clear cP fP c0 f0; replace k0 := hUn.heap k0 (by omega); replace kP := kn; replace hU0 := hU0.then hUn (fun i hi (e : i = _) => by first | exact e | exact absurd hi (by omega) | (subst e; first | assumption | (show _ ≤ _; omega)) | exact .inl e | exact .inr e | exact .inr (.inl e) | exact .inr (.inr e)); replace hz := Nat.le_trans hz (Nat.le_of_eq hsn.symm); clear kn hUn hsn; have cP := cells_of kP; (try simp only [rdC, nodeC, tokC, setC, zzT, zzO, zzS] at cP); have fP := frees_of kP; have c0 := cells_of k0; (try simp only [rdC, nodeC, tokC, setC, zzT, zzO, zzS] at c0); have f0 := frees_of k0)
            | ((with_reducible refine stopSt 3 _ _ rfl ?_); unfold Stop; refine wpList_store_blk rfl 3 _ _ rfl _ _ rfl _ (by go_simp; first | done | exact rfl) _ _ _ k0 (zzB rfl) (by kernel_rfl) rfl (by simp only [spl, rdC, nodeC, tokC, setC, Value.cells, zzT, zzO, zzS, Array.toList]; exact rfl) ?_; intro wn kn hUn hsn; clear c0 f0 cP fP; replace kP := hUn.heap kP (by omega); replace k0 := kn; replace hU0 := hU0.then hUn (fun i hi (e : i = _) => by first | exact e | exact absurd hi (by omega) | (subst e; first | assumption | (show _ ≤ _; omega)) | exact .inl e | exact .inr e | exact .inr (.inl e) | exact .inr (.inr e)); replace hz := Nat.le_trans hz (Nat.le_of_eq hsn.symm); clear kn hUn hsn; have c0 := cells_of k0; (try simp only [rdC, nodeC, tokC, setC, zzT, zzO, zzS] at c0); have f0 := frees_of k0; have cP := cells_of kP; (try simp only [rdC, nodeC, tokC, setC, zzT, zzO, zzS] at cP); have fP := frees_of kP)
            | ((with_reducible refine stopLd 69 _ rfl ?_); unfold Stop; refine wpList_load_blk rfl 69 _ rfl b0 3 rfl _ #[.slice na r.nodes.length nc, .int .i64 (k : Nat), .int .i64 (r.groups : Nat), .int .u8 r.case] _ (0, 0) _ k0 Try.underlying69 rfl (by rfl) (by kernel_rfl) ?_))
          exact bodyPost_ret (v := .tuple #[.agg _, .int .i64 33, .int .i64 0]) (results_blk_tmp2 Try.results28 _ _ bP 69 _ (0, 0) _ rfl kP Try.underlying69 rfl (by kernel_rfl)) rfl ⟨.slice none 0 0, [], rfl, PatAt.none _, hU0⟩
        · have g4 : ¬ (400 : Int) < (r.nodes.length : Int) := by omega
          have e := HQ.out
          rw [if_neg (fun h => h he), if_neg h4] at e
          have e := Option.some.inj e
          simp only [Prod.mk.injEq] at e
          obtain ⟨rfl, rfl, rfl⟩ := e
          clear he h4 HQ
          go_enter Try.func28, Try.ntmps28
          go_wp2_with (first
            | ((with_reducible refine stopAl 69 rfl ?_); unfold Stop; refine wpList_alloc_blk rfl 69 rfl (.agg #[.slice none 0 0, .int .i64 0, .int .i64 0, .int .u8 0]) (by kernel_rfl) #[.slice none 0 0, .int .i64 0, .int .i64 0, .int .u8 0] rfl ?_; intro bP wn hbn kn hUn hsn; have gP : w.heap.size ≤ bP := Nat.le_trans hU0.size (Nat.le_of_eq hbn); have kP := kn; replace hU0 := hU0.then hUn (fun _ _ h => h.elim); replace hz : w.heap.size ≤ wn.heap.size := (by omega); clear kn hUn hsn hbn; have cP := cells_of kP; (try simp only [rdC, nodeC, tokC, setC, zzT, zzO, zzS] at cP); have fP := frees_of kP)
            | ((with_reducible refine stopBx 96 _ rfl ?_); unfold Stop; refine wpList_box_blk rfl 96 _ rfl _ (by go_simp; first | done | exact rfl) (rdC s RdD.start (.slice none 0 0)) rfl ?_; intro b0 wn hbn kn hUn hsn; clear cP fP; have lP0 := heap_lt kP; rw [hbn] at lP0; replace kP := hUn.heap kP (fun h => h); have g0 : w.heap.size ≤ b0 := Nat.le_trans hU0.size (Nat.le_of_eq hbn); have k0 := kn; replace hU0 := hU0.then hUn (fun _ _ h => h.elim); replace hz : w.heap.size ≤ wn.heap.size := (by omega); have hR0 : RdAt wn w.heap.size b0 s .start (.slice none 0 0) [] (fun _ => False) := ⟨g0, kn, ⟨rfl, .inl ⟨rfl, rfl⟩⟩, rfl, fun i h => absurd h (Nat.not_lt_zero i), fun _ h => h.elim, rfl⟩; have HR0 := Lib.hid hR0; clear hR0; clear kn hUn hsn hbn; have c0 := cells_of k0; (try simp only [rdC, nodeC, tokC, setC, zzT, zzO, zzS] at c0); have f0 := frees_of k0; have cP := cells_of kP; (try simp only [rdC, nodeC, tokC, setC, zzT, zzO, zzS] at cP); have fP := frees_of kP)
            | (go_at_call 43; refine (branches_top HR0.out hz (by omega) (by simp [RdD.start]) _ _ HBR.out).mono ?_; rintro e w2 ⟨rfl, hT⟩; clear c0 f0 cP fP k0; replace kP := (RdTo.upd hT).heap kP (not_old lP0); obtain ⟨nv1, kvs1, Z1, hR1, hu1, hn1, hz1, hz2⟩ := hT; have hsz1 := hu1.size; replace hz := Nat.le_trans hz hsz1; replace hU0 := hU0.then hu1 (nil_new g0); have HR1 := Lib.hid hR1; have k0 := hR1.blk; clear hu1 hn1 hz1 hz2 hsz1; obtain ⟨na, nc, hnv⟩ := rd_form hR1; clear hR1; have HNV := Lib.hid hnv; rw [hnv] at k0; clear hnv; have HU2 := Lib.hid hU0; have HKP := Lib.hid kP; clear hU0; have hU0 := Upd.refl (fun k => k = b0 ∨ k = bP) w2; have c0 := cells_of k0; (try simp only [rdC, nodeC, tokC, setC, zzT, zzO, zzS] at c0); have f0 := frees_of k0; have cP := cells_of kP; (try simp only [rdC, nodeC, tokC, setC, zzT, zzO, zzS] at cP); have fP := frees_of kP)
            | ((with_reducible refine stopSt 69 _ _ rfl ?_); unfold Stop; refine wpList_store_blk rfl 69 _ _ rfl _ _ rfl _ (by go_simp; first | done | exact rfl) _ _ _ kP (zzB rfl) (by kernel_rfl) rfl (by simp only [spl, rdC, nodeC, tokC, setC, Value.cells, zzT, zzO, zzS, Array.toList]; exact rfl) ?_; intro wn kn hUn hsn; clear cP fP c0 f0; replace k0 := hUn.heap k0 (by omega); replace kP := kn; replace hU0 := hU0.then hUn (fun i hi (e : i = _) => by first | exact e | exact absurd hi (by omega) | (subst e; first | assumption | (show _ ≤ _; omega)) | exact .inl e | exact .inr e | exact .inr (.inl e) | exact .inr (.inr e)); replace hz := Nat.le_trans hz (Nat.le_of_eq hsn.symm); clear kn hUn hsn; have cP := cells_of kP; (try simp only [rdC, nodeC, tokC, setC, zzT, zzO, zzS] at cP); have fP := frees_of kP; have c0 := cells_of k0; (try simp only [rdC, nodeC, tokC, setC, zzT, zzO, zzS] at c0); have f0 := frees_of k0)
            | ((with_reducible refine stopSt 3 _ _ rfl ?_); unfold Stop; refine wpList_store_blk rfl 3 _ _ rfl _ _ rfl _ (by go_simp; first | done | exact rfl) _ _ _ k0 (zzB rfl) (by kernel_rfl) rfl (by simp only [spl, rdC, nodeC, tokC, setC, Value.cells, zzT, zzO, zzS, Array.toList]; exact rfl) ?_; intro wn kn hUn hsn; clear c0 f0 cP fP; replace kP := hUn.heap kP (by omega); replace k0 := kn; replace hU0 := hU0.then hUn (fun i hi (e : i = _) => by first | exact e | exact absurd hi (by omega) | (subst e; first | assumption | (show _ ≤ _; omega)) | exact .inl e | exact .inr e | exact .inr (.inl e) | exact .inr (.inr e)); replace hz := Nat.le_trans hz (Nat.le_of_eq hsn.symm); clear kn hUn hsn; have c0 := cells_of k0; (try simp only [rdC, nodeC, tokC, setC, zzT, zzO, zzS] at c0); have f0 := frees_of k0; have cP := cells_of kP; (try simp only [rdC, nodeC, tokC, setC, zzT, zzO, zzS] at cP); have fP := frees_of kP)
            | ((with_reducible refine stopLd 69 _ rfl ?_); unfold Stop; refine wpList_load_blk rfl 69 _ rfl b0 3 rfl _ #[.slice na r.nodes.length nc, .int .i64 (k : Nat), .int .i64 (r.groups : Nat), .int .u8 r.case] _ (0, 0) _ k0 Try.underlying69 rfl (by rfl) (by kernel_rfl) ?_))
          have q1 : ∀ g, nv1.ownBlock = some g → ¬ (g = b0 ∨ g = bP) := fun g hg e => by
            rcases e with e | e
            · exact HR1.out.nvne (by rw [hg, e])
            · obtain ⟨cs, hc⟩ := ownBlock_node HR1.out.own hg
              rw [e, HKP.out] at hc
              simp at hc
          have q2 : ∀ g, Z1 g → ¬ (g = b0 ∨ g = bP) := fun g hg e => by
            rcases e with e | e
            · exact (HR1.out.zne hg).1 e
            · obtain ⟨cs, fr, hc⟩ := HR1.out.zone g hg
              rw [e, HKP.out] at hc
              simp at hc
          exact bodyPost_ret (v := .tuple #[.agg _, .int .i64 0, .int .i64 0]) (results_blk_tmp2 Try.results28 _ _ bP 69 _ (0, 0) _ rfl kP Try.underlying69 rfl (by kernel_rfl)) rfl ⟨nv1, kvs1, by rw [HNV.out]; rfl, patAt_of HR1.out hU0 q1 q2, HU2.out.then hU0 (fun i hi e => by rcases e with e | e <;> omega)⟩
      · have ge : (r.err != 0) = true := by simpa using he
        have e := HQ.out
        rw [if_pos he] at e
        have e := Option.some.inj e
        simp only [Prod.mk.injEq] at e
        obtain ⟨rfl, rfl, rfl⟩ := e
        clear he HQ
        go_enter Try.func28, Try.ntmps28
        go_wp2_with (first
          | ((with_reducible refine stopAl 69 rfl ?_); unfold Stop; refine wpList_alloc_blk rfl 69 rfl (.agg #[.slice none 0 0, .int .i64 0, .int .i64 0, .int .u8 0]) (by kernel_rfl) #[.slice none 0 0, .int .i64 0, .int .i64 0, .int .u8 0] rfl ?_; intro bP wn hbn kn hUn hsn; have gP : w.heap.size ≤ bP := Nat.le_trans hU0.size (Nat.le_of_eq hbn); have kP := kn; replace hU0 := hU0.then hUn (fun _ _ h => h.elim); replace hz : w.heap.size ≤ wn.heap.size := (by omega); clear kn hUn hsn hbn; have cP := cells_of kP; (try simp only [rdC, nodeC, tokC, setC, zzT, zzO, zzS] at cP); have fP := frees_of kP)
          | ((with_reducible refine stopBx 96 _ rfl ?_); unfold Stop; refine wpList_box_blk rfl 96 _ rfl _ (by go_simp; first | done | exact rfl) (rdC s RdD.start (.slice none 0 0)) rfl ?_; intro b0 wn hbn kn hUn hsn; clear cP fP; have lP0 := heap_lt kP; rw [hbn] at lP0; replace kP := hUn.heap kP (fun h => h); have g0 : w.heap.size ≤ b0 := Nat.le_trans hU0.size (Nat.le_of_eq hbn); have k0 := kn; replace hU0 := hU0.then hUn (fun _ _ h => h.elim); replace hz : w.heap.size ≤ wn.heap.size := (by omega); have hR0 : RdAt wn w.heap.size b0 s .start (.slice none 0 0) [] (fun _ => False) := ⟨g0, kn, ⟨rfl, .inl ⟨rfl, rfl⟩⟩, rfl, fun i h => absurd h (Nat.not_lt_zero i), fun _ h => h.elim, rfl⟩; have HR0 := Lib.hid hR0; clear hR0; clear kn hUn hsn hbn; have c0 := cells_of k0; (try simp only [rdC, nodeC, tokC, setC, zzT, zzO, zzS] at c0); have f0 := frees_of k0; have cP := cells_of kP; (try simp only [rdC, nodeC, tokC, setC, zzT, zzO, zzS] at cP); have fP := frees_of kP)
          | (go_at_call 43; refine (branches_top HR0.out hz (by omega) (by simp [RdD.start]) _ _ HBR.out).mono ?_; rintro e w2 ⟨rfl, hT⟩; clear c0 f0 cP fP k0; replace kP := (RdTo.upd hT).heap kP (not_old lP0); obtain ⟨nv1, kvs1, Z1, hR1, hu1, hn1, hz1, hz2⟩ := hT; have hsz1 := hu1.size; replace hz := Nat.le_trans hz hsz1; replace hU0 := hU0.then hu1 (nil_new g0); have HR1 := Lib.hid hR1; have k0 := hR1.blk; clear hu1 hn1 hz1 hz2 hsz1; obtain ⟨na, nc, hnv⟩ := rd_form hR1; clear hR1; have HNV := Lib.hid hnv; rw [hnv] at k0; clear hnv; have c0 := cells_of k0; (try simp only [rdC, nodeC, tokC, setC, zzT, zzO, zzS] at c0); have f0 := frees_of k0; have cP := cells_of kP; (try simp only [rdC, nodeC, tokC, setC, zzT, zzO, zzS] at cP); have fP := frees_of kP))
        have c17 := cell_of k0 17 (v := .int .i64 r.err) rfl
        have c18 := cell_of k0 18 (v := .int .i64 (r.place : Nat)) rfl
        clear cP fP c0 f0
        refine wp_region_seq (fun v => Upd (fun k => k = bP) w2 v) (fun i => i != 99) [(0, true), (1, true), (2, true), (3, true), (4, true), (5, true), (6, true), (7, true), (8, true), (9, false), (10, true), (11, true)] (by exact rfl) (by kernel_rfl) (by intro c a d v w h; cases d <;> exact h) ?_
        have hS : Upd (fun k => k = bP) w2 w2.drew := (Upd.refl _ w2).drew
        iterate 9 (((apply seq_val2 rfl (by rfl); (focus (intro w' hS'; have s17 := hS'.cell c17 (by show ¬ b0 = bP; omega); have s18 := hS'.cell c18 (by show ¬ b0 = bP; omega); go_simp; (first | done | exact rfl | (rw [if_pos (by omega)]; done)))); (focus exact hS))); (try simp only [Act.put, zzT, zzO, zzS]))
        refine seq_loud2 rfl (fun K hK => ?_)
        rw [if_pos (by rfl)]; refine wp_store_blk 69 _ _ rfl bP 0 rfl (.agg #[.slice none 0 0, .int .i64 0, .int .i64 0, .int .u8 0]) rfl _ _ _ (show w2.drew.heap[bP]? = _ from kP) (zzB rfl) (by kernel_rfl) rfl (by simp only [spl, Value.cells, zzT, zzO, zzS, Array.toList]; exact rfl) ?_; intro w9 k9 hU9 hs9; have hS9 : Upd (fun k => k = bP) w2 w9 := hS.then hU9 (fun _ _ h => h); clear hS; have hS := hS9; refine hK _ _ (fun _ => hS) ?_; clear hK K
        (try simp only [Act.put, zzT, zzO, zzS])
        iterate 2 (((apply seq_val2 rfl (by rfl); (focus (intro w' hS'; have s17 := hS'.cell c17 (by show ¬ b0 = bP; omega); have s18 := hS'.cell c18 (by show ¬ b0 = bP; omega); go_simp; (first | done | exact rfl | (rw [if_pos (by omega)]; done)))); (focus exact hS))); (try simp only [Act.put, zzT, zzO, zzS]))
        refine seq_nil ?_
        go_wp2
        exact bodyPost_ret (v := .tuple #[.agg _, .int .i64 _, .int .i64 _]) (results_blk_tmp2 Try.results28 _ _ bP 69 _ (0, 0) _ rfl k9 Try.underlying69 rfl (by kernel_rfl)) rfl ⟨.slice none 0 0, [], rfl, PatAt.none _, hU0.then hS (fun i hi (e : i = _) => by omega)⟩
end Go.Proofs.Ytigbfgmgdfnhcaa
namespace Go.Proofs.Ytigbfgmgdfnhcaa
open Go.RowKit
theorem collL_ge (l : List UInt8) (nt : Bool) : ∀ (f : Nat) (set : SetD) (fl fi : Bool) (i : Nat) (x : SetD) (e : Nat) (b : Bool), collL l nt f set fl fi i = some (x, e, b) → i + 1 ≤ e
  | 0, _, _, _, _, _, _, _, h => by unfold collL at h; cases h
  | f + 1, set, fl, fi, i, x, e, b, h => by
    unfold collL at h
    split at h
    · cases h
    · split at h
      · have e1 := Option.some.inj h
        simp only [Prod.mk.injEq] at e1
        omega
      · split at h
        · rename_i hn
          have h1 := nameF_facts l i hn
          have h2 := collL_ge l nt f _ _ _ _ _ _ _ h
          omega
        · have h1 := itemF_facts l i
          have h2 := collL_ge l nt f _ _ _ _ _ _ _ h
          have h3 : (itemF l i).2 ≤ (highF l (itemF l i).1 (itemF l i).2).2 := by
            unfold highF
            split
            · have := itemF_facts l ((itemF l i).2 + 1); omega
            · exact Nat.le_refl _
          omega
theorem coll_pos (st : RdD) (l : List UInt8) (o : Nat) : (st.collection l o).2.2.pos = st.pos ∧ (st.collection l o).2.2.groups = st.groups ∧ (0 < (st.collection l o).2.1 → o + 2 ≤ (st.collection l o).2.1) := by
  unfold RdD.collection
  split
  · exact ⟨rfl, rfl, fun h => absurd h (by simp)⟩
  · rename_i s e fl hc
    have h1 := collL_ge l _ _ _ _ _ _ _ _ _ hc
    refine ⟨?_, ?_, fun _ => ?_⟩
    · simp only []; split
      · unfold RdD.wrong; split <;> rfl
      · rfl
    · simp only []; split
      · unfold RdD.wrong; split <;> rfl
      · rfl
    · simp only []
      split at h1 <;> omega
theorem bracesB_ge {l : List UInt8} {lz : Bool} {lo mx : Int} {i k : Nat} {n : NodeD} (h : bracesB l lz lo mx i = some (n, k)) : i ≤ k := by
  unfold bracesB at h
  simp only [] at h
  have hj : i ≤ (if i < l.length ∧ bl l i = 92 then i + 1 else i) := by split <;> omega
  generalize (if i < l.length ∧ bl l i = 92 then i + 1 else i) = j at h hj
  split at h
  · cases h
  · have e := Option.some.inj h
    simp only [Prod.mk.injEq] at e
    omega
theorem bracesF_ge {l : List UInt8} {i k : Nat} {n : NodeD} (h : bracesF l i = some (n, k)) : i ≤ k := by
  have hA : ∀ lz j, bracesA l lz j = some (n, k) → j ≤ k := by
    intro lz j h
    have h1 := (numL_bd l 4 0 j).1
    unfold bracesA at h
    simp only [] at h
    split at h
    · cases h
    · split at h
      · split at h
        · cases h
        · have h2 := (numL_bd l 4 0 ((numberF l j).2.1 + 1)).1
          have h3 := bracesB_ge h
          unfold numberF at h3
          simp only [] at h3
          unfold numberF at h2
          simp only [] at h2
          omega
      · have h3 := bracesB_ge h
        unfold numberF at h3
        simp only [] at h3
        omega
  unfold bracesF at h
  split at h
  · have := hA _ _ h; omega
  · exact hA _ _ h
theorem node_pos (st : RdD) (n : NodeD) : (st.node n).2.pos = st.pos ∧ (st.node n).2.groups = st.groups := by unfold RdD.node; split <;> exact ⟨rfl, rfl⟩
theorem wrong_pos (st : RdD) (e : Int) (i : Nat) : (st.wrong e i).pos = st.pos ∧ (st.wrong e i).groups = st.groups := by unfold RdD.wrong; split <;> exact ⟨rfl, rfl⟩
theorem row_pos (st : RdD) (op : Int) (ks : List Nat) : (st.row op ks).2.pos = st.pos ∧ (st.row op ks).2.groups = st.groups := by
  match ks with
  | [] => exact node_pos _ _
  | [k] => exact ⟨rfl, rfl⟩
  | a :: b :: ks => exact node_pos _ _
/-- An answer that has come at least as far. -/
def Goes (r : RdD) (p : Nat) (q : Option (RdD × BrD)) : Prop := ∃ s b, q = some (s, b) ∧ p ≤ s.pos ∧ r.groups ≤ s.groups
def GoesK (r : RdD) (p : Nat) (q : Option (Nat × RdD)) : Prop := ∃ k s, q = some (k, s) ∧ p ≤ s.pos ∧ r.groups ≤ s.groups
theorem goes_of {r : RdD} {p : Nat} (q : RdD × BrD) (h1 : p ≤ q.1.pos) (h2 : r.groups ≤ q.1.groups) : Goes r p (some q) := ⟨q.1, q.2, rfl, h1, h2⟩
theorem goes_laid {r st : RdD} {p : Nat} {b : BrD} {n : NodeD} {m : Bool} (h1 : p ≤ st.pos) (h2 : r.groups ≤ st.groups) : Goes r p (some (st.laid b n m)) :=
  goes_of _ (by show p ≤ (st.node n).2.pos; rw [(node_pos st n).1]; exact h1) (by show r.groups ≤ (st.node n).2.groups; rw [(node_pos st n).2]; exact h2)
theorem goes_wrong {r st : RdD} {p i : Nat} {b : BrD} {e : Int} (h1 : p ≤ st.pos) (h2 : r.groups ≤ st.groups) : Goes r p (some (st.wrong e i, b)) :=
  goes_of _ (by show p ≤ (st.wrong e i).pos; rw [(wrong_pos st e i).1]; exact h1) (by show r.groups ≤ (st.wrong e i).groups; rw [(wrong_pos st e i).2]; exact h2)
theorem group_goes {rec : RdD → Option (Nat × RdD)} {l : List UInt8} {r : RdD} {b : BrD} {i : Nat} (hr : ∀ s : RdD, s.groups = r.groups + 1 → r.groups ≤ 8 → GoesK s s.pos (rec s)) : Goes r r.pos (r.group rec l b i) := by
  unfold RdD.group
  split
  · exact goes_wrong (Nat.le_refl _) (Nat.le_refl _)
  · obtain ⟨k, s, h1, h2, h3⟩ := hr { r with groups := r.groups + 1 } rfl (by omega)
    rw [h1]
    simp only []
    simp only [] at h2 h3
    split
    · exact goes_of _ h2 (by show r.groups ≤ s.groups; omega)
    · split
      · exact goes_wrong h2 (by omega)
      · have ht := token_next l s.mode s.case s.pos
        exact goes_laid (by show r.pos ≤ (tokenF l s.mode s.case s.pos).1.next; omega) (by show r.groups ≤ s.groups; omega)
theorem many_goes {l : List UInt8} {r : RdD} {b : BrD} {c : Int} {i next : Nat} (hp : next ≤ r.pos) : Goes r next (some (r.many l b c i next)) := by
  unfold RdD.many
  split
  · split
    · exact goes_of _ (Nat.le_refl _) (Nat.le_of_eq (node_pos r _).2.symm)
    · exact goes_wrong hp (Nat.le_refl _)
  · split
    · split
      · exact goes_wrong hp (Nat.le_refl _)
      · rename_i m e hb
        exact goes_of _ (bracesF_ge hb) (Nat.le_of_eq (node_pos r _).2.symm)
    · exact goes_of _ (Nat.le_refl _) (Nat.le_of_eq (node_pos r _).2.symm)
theorem sign_goes {rec : RdD → Option (Nat × RdD)} {l : List UInt8} {r : RdD} {b : BrD} {c : Int} {i next : Nat} (h1 : 1 ≤ next) (hr : ∀ s : RdD, s.groups = r.groups + 1 → r.groups ≤ 8 → GoesK s s.pos (rec s)) : Goes r next (r.sign rec l b c i next) := by
  unfold RdD.sign
  simp only []
  have hl : ∀ n m, Goes r next (some (({ r with pos := next } : RdD).laid b n m)) := fun n m => goes_laid (Nat.le_refl _) (Nat.le_refl _)
  split
  · split
    · exact hl _ _
    · exact hl _ _
  · split
    · split
      · exact hl _ _
      · exact hl _ _
    · split
      · exact hl _ _
      · split
        · exact hl _ _
        · split
          · exact hl _ _
          · split
            · exact hl _ _
            · split
              · obtain ⟨c1, c2, c3⟩ := coll_pos { r with pos := next } l (next - 1)
                split
                · rename_i hlt
                  have c4 := c3 hlt
                  exact goes_laid (by show next ≤ (({ r with pos := next } : RdD).collection l (next - 1)).2.1; omega) (Nat.le_of_eq c2.symm)
                · exact goes_laid (Nat.le_of_eq c1.symm) (Nat.le_of_eq c2.symm)
              · split
                · exact group_goes (r := { r with pos := next }) hr
                · exact many_goes (r := { r with pos := next }) (Nat.le_refl _)
theorem branchL_goes {rec : RdD → Option (Nat × RdD)} {l : List UInt8} {within : Bool} {G : Nat} (hr : ∀ s : RdD, G + 1 ≤ s.groups → s.groups ≤ 9 → GoesK s s.pos (rec s)) : ∀ (f : Nat) (r : RdD) (b : BrD), G ≤ r.groups → l.length + 1 ≤ f + r.pos → 1 ≤ f → Goes r r.pos (branchL rec l within f r b)
  | 0, _, _, _, _, h => by omega
  | f + 1, r, b, hG, hf, _ => by
    have stop := goes_of (r := r) (p := r.pos) (r, b) (Nat.le_refl _) (Nat.le_refl _)
    unfold branchL
    split
    · exact stop
    · rename_i hs
      have hp : r.pos < l.length := by
        rcases Nat.lt_or_ge r.pos l.length with h | h
        · exact h
        · exact absurd (.inr h) hs
      have ht := token_next l r.mode r.case r.pos
      have on : ∀ (s : RdD) (b2 : BrD), r.pos + 1 ≤ s.pos → r.groups ≤ s.groups → Goes r r.pos (branchL rec l within f s b2) := by
        intro s b2 h1 h2
        by_cases hf1 : 1 ≤ f
        · obtain ⟨s3, b3, e, h3, h4⟩ := branchL_goes (l := l) hr f s b2 (by omega) (by omega) hf1
          exact ⟨s3, b3, e, by omega, by omega⟩
        · omega
      simp only []
      split
      · exact goes_wrong (Nat.le_refl _) (Nat.le_refl _)
      · split
        · exact on _ _ (by show r.pos + 1 ≤ (tokenF l r.mode r.case r.pos).1.next; omega) (Nat.le_refl _)
        · split
          · exact stop
          · split
            · exact goes_wrong (Nat.le_refl _) (Nat.le_refl _)
            · split
              · obtain ⟨s, b2, e, h3, h4⟩ := sign_goes (rec := rec) (l := l) (r := r) (b := b) (c := (tokenF l r.mode r.case r.pos).1.sign) (i := r.pos) (next := (tokenF l r.mode r.case r.pos).1.next) (by omega) (fun s h1 h2 => hr s (by omega) (by omega))
                rw [e]
                exact on s b2 (by omega) h4
              · split
                · exact goes_wrong (Nat.le_refl _) (Nat.le_refl _)
                · refine on _ _ ?_ ?_
                  · show r.pos + 1 ≤ (RdD.node _ _).2.pos
                    rw [(node_pos _ _).1]
                    show r.pos + 1 ≤ (tokenF l r.mode r.case r.pos).1.next
                    omega
                  · show r.groups ≤ (RdD.node _ _).2.groups
                    rw [(node_pos _ _).2]
                    exact Nat.le_refl _
theorem branchF_goes {rec : RdD → Option (Nat × RdD)} {l : List UInt8} {within : Bool} {r : RdD} (hr : ∀ s : RdD, r.groups + 1 ≤ s.groups → s.groups ≤ 9 → GoesK s s.pos (rec s)) : GoesK r r.pos (branchF rec l within r) := by
  obtain ⟨s, b, e, h1, h2⟩ := branchL_goes (l := l) (within := within) (G := r.groups) hr (l.length + 1) r ⟨[], false⟩ (Nat.le_refl _) (by omega) (by omega)
  unfold branchF
  rw [e]
  exact ⟨(s.row 5 b.kids).1, (s.row 5 b.kids).2, rfl, by rw [(row_pos s 5 b.kids).1]; exact h1, by rw [(row_pos s 5 b.kids).2]; exact h2⟩
theorem branchesL_goes {rec : RdD → Option (Nat × RdD)} {l : List UInt8} {within : Bool} {G : Nat} (hr : ∀ s : RdD, G + 1 ≤ s.groups → s.groups ≤ 9 → GoesK s s.pos (rec s)) : ∀ (f : Nat) (r : RdD) (ks : List Nat), G ≤ r.groups → l.length + 1 ≤ f + r.pos → 1 ≤ f →
    ∃ s ks2, branchesL rec l within f r ks = some (s, ks2) ∧ r.pos ≤ s.pos ∧ r.groups ≤ s.groups
  | 0, _, _, _, _, h => by omega
  | f + 1, r, ks, hG, hf, _ => by
    unfold branchesL
    split
    · exact ⟨_, _, rfl, Nat.le_refl _, Nat.le_refl _⟩
    · rename_i hs
      have hp : r.pos < l.length := by
        rcases Nat.lt_or_ge r.pos l.length with h | h
        · exact h
        · exact absurd (.inr h) hs
      have ht := token_next l r.mode r.case r.pos
      split
      · exact ⟨_, _, rfl, Nat.le_refl _, Nat.le_refl _⟩
      · obtain ⟨k, s, e, h1, h2⟩ := branchF_goes (rec := rec) (l := l) (within := within) (r := { r with pos := (tokenF l r.mode r.case r.pos).1.next }) (fun s h1 h2 => hr s (by simp only [] at h1; omega) h2)
        rw [e]
        simp only [] at h1 h2 ⊢
        by_cases hf1 : 1 ≤ f
        · obtain ⟨s3, ks3, e3, h3, h4⟩ := branchesL_goes (l := l) hr f s (ks ++ [k]) (by omega) (by omega) hf1
          exact ⟨s3, ks3, e3, by omega, by omega⟩
        · omega
theorem branchesF_goes (l : List UInt8) : ∀ (d : Nat) (within : Bool) (r : RdD), 10 ≤ r.groups + d → 1 ≤ d → GoesK r r.pos (branchesF l d within r)
  | 0, _, _, _, h => by omega
  | d + 1, within, r, hd, _ => by
    have hr : ∀ s : RdD, r.groups + 1 ≤ s.groups → s.groups ≤ 9 → GoesK s s.pos (branchesF l d true s) := fun s h1 h2 => branchesF_goes l d true s (by omega) (by omega)
    obtain ⟨k, s, e, h1, h2⟩ := branchF_goes (rec := branchesF l d true) (l := l) (within := within) (r := r) hr
    obtain ⟨s3, ks3, e3, h3, h4⟩ := branchesL_goes (rec := branchesF l d true) (l := l) (within := within) (G := r.groups) hr (l.length + 1) s [k] h2 (by omega) (by omega)
    unfold branchesF
    rw [e]
    simp only [e3]
    exact ⟨(s3.row 6 ks3).1, (s3.row 6 ks3).2, rfl, by rw [(row_pos s3 6 ks3).1]; omega, by rw [(row_pos s3 6 ks3).2]; omega⟩
/-- The document's Parse has an answer for each text. -/
theorem parseF_some (l : List UInt8) : ∃ p e pl, parseF l = some (p, e, pl) := by
  unfold parseF
  split
  · exact ⟨_, _, _, rfl⟩
  · obtain ⟨k, s, e, _, _⟩ := branchesF_goes l 11 false .start (by simp [RdD.start]) (by omega)
    rw [e]
    simp only []
    split
    · exact ⟨_, _, _, rfl⟩
    · split
      · exact ⟨_, _, _, rfl⟩
      · exact ⟨_, _, _, rfl⟩
end Go.Proofs.Ytigbfgmgdfnhcaa
