/- Lemmas that the law's proof stands on, part 19: SndB. No condition. -/
import Derived.Test.YtigbfgmgdfnhcaaBaseA0
import Derived.Test.YtigbfgmgdfnhcaaBaseA18
set_option linter.all false
set_option linter.unusedVariables false
set_option linter.unusedSimpArgs false
namespace Go.Proofs.Ytigbfgmgdfnhcaa
open Go.RowKit
theorem seen_set (seen : List Bool) (k : Nat) : Array.setIfInBounds (seen.map Value.bool).toArray k (.bool true) = ((seen.set k true).map Value.bool).toArray := by
  rw [List.map_set]; simp
theorem WkAt.ne {w : World} {bW bS : Nat} {p : PatD} {nv : Value} {kvs : List Value} {seen : List Bool} (h : WkAt w bW bS p nv kvs seen) : bW ≠ bS ∧ ∀ g, nv.ownBlock = some g → g ≠ bS := by
  refine ⟨fun e => ?_, fun g hg e => ?_⟩
  · have := h.blk; rw [e, h.sn] at this; simp at this
  · obtain ⟨cs, hc⟩ := ownBlock_node h.pat.own hg
    rw [e, h.sn] at hc; simp at hc
/-- One more is seen. -/
theorem WkAt.mark {w w' : World} {bW bS : Nat} {p : PatD} {nv : Value} {kvs : List Value} {seen seen2 : List Bool} (h : WkAt w bW bS p nv kvs seen) (hk : w'.heap[bS]? = some (.cells (seen2.map Value.bool).toArray 4 (0, 0))) (hu : Upd (fun j => j = bS) w w') (hl : seen2.length = seen.length := by simp) : WkAt w' bW bS p nv kvs seen2 := by
  obtain ⟨h1, h2⟩ := h.ne
  refine ⟨⟨ownsRow_upd h.pat.own hu (fun g hg => h2 g hg), h.pat.len, fun i g1 g2 => ?_⟩, hu.heap h.blk h1, hk, hl.trans h.slen, h.sep⟩
  obtain ⟨g3, g4⟩ := h.pat.kids i g1 g2
  exact ⟨g3.upd hu (fun g hg e => h.sep _ (List.getElem_mem g2) (by rw [hg, e])), fun g hg => Nat.lt_of_lt_of_le (g4 g hg) hu.size⟩
theorem WkAt.later {w w' : World} {bW bS : Nat} {p : PatD} {nv : Value} {kvs : List Value} {seen : List Bool} (h : WkAt w bW bS p nv kvs seen) (hu : Upd (fun _ => False) w w') : WkAt w' bW bS p nv kvs seen := h.newer (hu.mono (fun _ _ h => h.elim))
theorem headD_get {l : List Nat} (h : 0 < l.length) : l.headD 0 = l[0] := by
  cases l with
  | nil => simp at h
  | cons a l => rfl
def bad1 (p : PatD) (n : NodeD) : Bool := !kidsB n || decide (n.op = 8 ∨ n.op = 9) && (decide (n.n < 1) || decide ((p.groups : Int) < n.n))
def bad2 (n : NodeD) : Bool := n.op == 7 && (decide (n.min < 0) || decide (60 < n.min) || decide (60 < n.max) || decide (0 ≤ n.max) && decide (n.max < n.min))
theorem fineN_bad (p : PatD) (n : NodeD) : fineN p n = (!bad1 p n && !bad2 n) := by
  unfold fineN bad1 bad2
  cases kidsB n <;> cases (decide (n.op = 8 ∨ n.op = 9) && (decide (n.n < 1) || decide ((p.groups : Int) < n.n))) <;> rfl
theorem soundL_cons {rec : Nat → List Bool → Option (Bool × List Bool)} {k : Nat} {ks : List Nat} {s : List Bool} {q : Bool × List Bool} (h : soundL rec (k :: ks) s = some q) : ∃ b s2, rec k s = some (b, s2) ∧ (b = false → q = (false, s2)) ∧ (b = true → soundL rec ks s2 = some q) := by
  unfold soundL at h
  split at h
  · cases h
  · rename_i s2 e
    exact ⟨false, s2, e, fun _ => (Option.some.inj h).symm, fun e => by cases e⟩
  · rename_i s2 e
    exact ⟨true, s2, e, (fun e => by cases e), fun _ => h⟩
/-- What is sound is there, and so are its kids. -/
def InR (p : PatD) (k : Nat) : Prop := k < p.nodes.length ∧ ∀ j, j ∈ (p.nodes.getD k .zero).kids → j < p.nodes.length
theorem soundL_all {rec : Nat → List Bool → Option (Bool × List Bool)} {P : Nat → Prop} (hr : ∀ k s s2, rec k s = some (true, s2) → P k) : ∀ (ks : List Nat) (s s2 : List Bool), soundL rec ks s = some (true, s2) → ∀ k, k ∈ ks → P k
  | [], _, _, _, k, hk => by simp at hk
  | a :: ks, s, s2, h, k, hk => by
    obtain ⟨b1, s1, e, h1, h2⟩ := soundL_cons h
    cases b1
    · have := h1 rfl; simp at this
    · rcases List.mem_cons.1 hk with rfl | hk
      · exact hr _ _ _ e
      · exact soundL_all hr ks s1 s2 (h2 rfl) k hk
theorem soundF_in (p : PatD) : ∀ (f k : Nat) (s s2 : List Bool), soundF p f k s = some (true, s2) → InR p k
  | 0, _, _, _, h => by unfold soundF at h; cases h
  | f + 1, k, s, s2, h => by
    unfold soundF at h
    split at h
    · simp at h
    · rename_i h0
      split at h
      · simp at h
      · split at h
        · cases h
        · simp at h
        · rename_i s3 e
          refine ⟨Nat.lt_of_not_le (fun h => h0 (.inl h)), fun j hj => ?_⟩
          exact (soundL_all (P := InR p) (fun k s s2 h => soundF_in p f k s s2 h) _ _ _ e j hj).1
set_option maxRecDepth 100000 in
set_option maxHeartbeats 8000000 in
theorem sound_step {w : World} {bW bS : Nat} {p : PatD} {nv : Value} {kvs : List Value} {seen : List Bool} (h : WkAt w bW bS p nv kvs seen) (k f : Nat) (hl : p.nodes.length ≤ 1000) (hkl : ∀ k, (p.nodes.getD k .zero).kids.length ≤ 1000) (b : Bool) (seen2 : List Bool)
    (hrec : ∀ (w : World) (k : Nat) (seen : List Bool) (b : Bool) (seen2 : List Bool), WkAt w bW bS p nv kvs seen → soundF p f k seen = some (b, seen2) → Calls Try.prog 64 #[.pointer (some ⟨bW, 0, none⟩), .int .i64 k] w fun e w' => e = .returned (.bool b) ∧ WkAt w' bW bS p nv kvs seen2 ∧ Upd (fun j => j = bS) w w')
    (hq : soundF p (f + 1) k seen = some (b, seen2)) :
    Calls Try.prog 64 #[.pointer (some ⟨bW, 0, none⟩), .int .i64 k] w fun e w' => e = .returned (.bool b) ∧ WkAt w' bW bS p nv kvs seen2 ∧ Upd (fun j => j = bS) w w' := by
  have hU0 := Upd.refl (fun j => j = bS) w
  have hz := Nat.le_refl w.heap.size
  have HW := Lib.hid h
  have HREC := Lib.hid hrec
  have HKL := Lib.hid hkl
  have k0 := h.blk
  have kS := h.sn
  have hsl := h.slen
  unfold soundF at hq
  obtain ⟨ga, gc, rfl⟩ : ∃ a c, nv = .slice a p.nodes.length c := by
    rcases h.pat.own.2 with ⟨rfl, h0⟩ | ⟨g, cap, cur, rfl, _⟩
    · exact ⟨none, 0, by rw [h0]⟩
    · exact ⟨_, cap, rfl⟩
  clear hrec hkl
  by_cases hlt : k < p.nodes.length
  · have hlt2 : ¬ (p.nodes.length : Int) ≤ (k : Int) := by omega
    have hlt3 : (k : Int) < (p.nodes.length : Int) := by omega
    cases hsn : seen.getD k true
    · obtain ⟨g, c, cur, kv, e, kG, hG, hN, hop, hmem⟩ := node_at h.pat k hlt
      have HSP := Lib.hid (h.sep kv hmem)
      clear hmem
      injection e with e1 e2 e3
      subst e1 e3
      obtain ⟨na, nc, rfl⟩ := nats_form hN
      have HG := Lib.hid hG
      have HN := Lib.hid hN
      obtain ⟨n, hn⟩ : ∃ n, p.nodes.getD k .zero = n := ⟨_, rfl⟩
      have HNE := Lib.hid (And.intro h.ne.1 (h.ne.2 g rfl))
      rw [if_neg (by rintro (h | h); omega; rw [hsn] at h; cases h), hn] at hq
      rw [hn] at HG HN HSP
      have HQ := Lib.hid hq
      have HSZ : Hid (k + 1 ≤ (seen.map Value.bool).toArray.size) := Lib.hid (by simp; omega)
      have ck := cell_of kS k (v := .bool false) (by simp [List.getD_eq_getElem?_getD] at hsn ⊢; rw [List.getElem?_eq_getElem (by omega)] at hsn ⊢; simpa using hsn)
      have HNN := Lib.hid hn
      have HKN : Hid (n.kids.length ≤ 1000) := Lib.hid (by rw [← hn]; exact HKL.out k)
      have hsl2 : k < seen.length := by omega
      clear h hG hN hop hq hn hsn
      have c0 := cells_of k0; (try simp only [rdC, nodeC, tokC, setC, zzT, zzO, zzS] at c0); have f0 := frees_of k0; have cS := cells_of kS; (try simp only [rdC, nodeC, tokC, setC, zzT, zzO, zzS] at cS); have fS := frees_of kS; have cG := cells_of kG; (try simp only [rdC, nodeC, tokC, setC, zzT, zzO, zzS] at cG); have fG := frees_of kG
      clear cS
      go_enter Try.func64, Try.ntmps64
      go_upto_region 5 with (first
        | ((with_reducible refine stopSt 4 _ _ rfl ?_); unfold Stop; refine wpList_store_blk rfl 4 _ _ rfl bS k rfl (.bool true) rfl _ (Array.setIfInBounds (seen.map Value.bool).toArray k (.bool true)) _ kS HSZ.out (by kernel_rfl) rfl rfl ?_; intro wn kn hUn hsn; clear c0 f0 fS cG fG ck; rw [seen_set] at kn; replace k0 := hUn.heap k0 HNE.out.1; replace kG := hUn.heap kG HNE.out.2; replace kS := kn; have HW2 := Lib.hid (HW.out.mark kn hUn); replace hU0 := hU0.then hUn (fun _ _ h => h); replace hz := Nat.le_trans hz (Nat.le_of_eq hsn.symm); clear kn hUn hsn; have c0 := cells_of k0; (try simp only [rdC, nodeC, tokC, setC, zzT, zzO, zzS] at c0); have f0 := frees_of k0; have cS := cells_of kS; (try simp only [rdC, nodeC, tokC, setC, zzT, zzO, zzS] at cS); have fS := frees_of kS; have cG := cells_of kG; (try simp only [rdC, nodeC, tokC, setC, zzT, zzO, zzS] at cG); have fG := frees_of kG)
        | ((with_reducible refine stopLd 113 _ rfl ?_); unfold Stop; refine wpList_load_blk rfl 113 _ rfl g (k * 11) rfl _ (nodeC n (.slice na n.kids.length nc)).toArray _ (0, 0) _ kG Try.underlying113 rfl HG.out (by kernel_rfl) ?_)
        | ((with_reducible refine stopAl 113 rfl ?_); unfold Stop; refine wpList_alloc_blk rfl 113 rfl (.agg #[.int .u8 0, .int .u8 0, .int .u64 0, .int .u64 0, .int .u64 0, .int .u64 0, .int .i64 0, .int .i64 0, .bool false, .int .i64 0, .slice none 0 0]) (by kernel_rfl) #[.int .u8 0, .int .u8 0, .int .u64 0, .int .u64 0, .int .u64 0, .int .u64 0, .int .i64 0, .int .i64 0, .bool false, .int .i64 0, .slice none 0 0] rfl ?_; intro bN wn hbn kn hUn hsn; clear c0 f0 cS fS cG fG; have l0N := heap_lt k0; rw [hbn] at l0N; replace k0 := hUn.heap k0 (fun h => h); have lSN := heap_lt kS; rw [hbn] at lSN; replace kS := hUn.heap kS (fun h => h); have lGN := heap_lt kG; rw [hbn] at lGN; replace kG := hUn.heap kG (fun h => h); have gN : w.heap.size ≤ bN := Nat.le_trans hU0.size (Nat.le_of_eq hbn); have kN := kn; replace hU0 := hU0.then hUn (fun _ _ h => h.elim); replace hz : w.heap.size ≤ wn.heap.size := (by omega); clear kn hUn hsn hbn; have cN := cells_of kN; (try simp only [rdC, nodeC, tokC, setC, zzT, zzO, zzS] at cN); have fN := frees_of kN; have c0 := cells_of k0; (try simp only [rdC, nodeC, tokC, setC, zzT, zzO, zzS] at c0); have f0 := frees_of k0; have cS := cells_of kS; (try simp only [rdC, nodeC, tokC, setC, zzT, zzO, zzS] at cS); have fS := frees_of kS; have cG := cells_of kG; (try simp only [rdC, nodeC, tokC, setC, zzT, zzO, zzS] at cG); have fG := frees_of kG)
        | ((with_reducible refine stopSt 113 _ _ rfl ?_); unfold Stop; refine wpList_store_blk rfl 113 _ _ rfl _ _ rfl _ (by go_simp; first | done | exact rfl) _ _ _ kN (zzB rfl) (by kernel_rfl) rfl (by simp only [spl, rdC, nodeC, tokC, setC, Value.cells, zzT, zzO, zzS, Array.toList]; exact rfl) ?_; intro wn kn hUn hsn; clear cN fN c0 f0 cS fS cG fG; replace k0 := hUn.heap k0 (by omega); replace kS := hUn.heap kS (by omega); replace kG := hUn.heap kG (by omega); replace kN := kn; replace hU0 := hU0.then hUn (fun i hi (e : i = _) => by first | exact e | exact absurd hi (by omega) | (subst e; first | assumption | (show _ ≤ _; omega)) | exact .inl e | exact .inr e | exact .inr (.inl e) | exact .inr (.inr e)); replace hz := Nat.le_trans hz (Nat.le_of_eq hsn.symm); clear kn hUn hsn; have cN := cells_of kN; (try simp only [rdC, nodeC, tokC, setC, zzT, zzO, zzS] at cN); have fN := frees_of kN; have c0 := cells_of k0; (try simp only [rdC, nodeC, tokC, setC, zzT, zzO, zzS] at c0); have f0 := frees_of k0; have cS := cells_of kS; (try simp only [rdC, nodeC, tokC, setC, zzT, zzO, zzS] at cS); have fS := frees_of kS; have cG := cells_of kG; (try simp only [rdC, nodeC, tokC, setC, zzT, zzO, zzS] at cG); have fG := frees_of kG))
      go_simp
      go_cut [6] (fun t w' => t = .bool (n.op == 8 || n.op == 9) ∧ w' = wn)
      case first =>
        clear HREC HW HW2
        by_cases h8 : n.op = 8
        · have g8 : (n.op == 8) = true := by simpa using h8
          have HD : Hid ((n.op == 8 || n.op == 9) = true) := Lib.hid (by simp [h8])
          clear h8
          go_wp2
          go_meet
          exact ⟨by rw [HD.out], rfl⟩
        · have g8 : (n.op == 8) = false := by simpa using h8
          have HD : Hid ((n.op == 8 || n.op == 9) = (n.op == 9)) := Lib.hid (by rw [Bool.eq_iff_iff]; simp [h8])
          clear h8
          go_wp2
          go_meet
          exact ⟨by rw [HD.out], rfl⟩
      case rest =>
        obtain ⟨rfl, rfl⟩ := hcut
        have HB1 : Hid (bad1 p n = (!kidsB n || (n.op == 8 || n.op == 9) && (decide (n.n < 1) || decide ((p.groups : Int) < n.n)))) := Lib.hid (by unfold bad1; congr 2; rw [Bool.eq_iff_iff]; simp)
        obtain ⟨nb, hnb⟩ : ∃ nb, (n.op == 8 || n.op == 9) = nb := ⟨_, rfl⟩
        obtain ⟨B1, hB1⟩ : ∃ B1, bad1 p n = B1 := ⟨_, rfl⟩
        rw [hnb]
        rw [hnb, hB1] at HB1
        have HBB1 := Lib.hid hB1
        clear hnb hB1
        go_upto_region 6 with fail
        go_simp
        go_cut [72] (fun t w' => t = .bool B1 ∧ Upd (fun _ => False) wc w')
        case first =>
          clear HREC HW HW2
          have c9 := cell_of kN 9 (v := .int .i64 n.n) rfl
          have cg2 := cell_of k0 2 (v := .int .i64 (p.groups : Nat)) rfl
          cases hkb : kidsB n
          · have HKB := Lib.hid hkb
            clear hkb
            refine wp_region_seq (fun v => Upd (fun _ => False) wc v) (fun i => i != 99) [(0, true), (1, false), (2, true), (3, true), (4, true), (5, true), (6, true), (7, true), (8, true), (9, true), (10, true), (11, true), (12, true), (13, true), (14, true), (15, true), (16, true), (17, true), (18, true), (19, true), (20, true)] (by exact rfl) (by kernel_rfl) (by intro c a d v w h; cases d <;> exact h) ?_
            have hS : Upd (fun _ => False) wc wc.drew := (Upd.refl _ wc).drew
            (apply seq_val2 rfl (by rfl); (focus (intro w' hS'; have s9 := hS'.cell c9 (fun h => h); have s2 := hS'.cell cg2 (fun h => h); exact exec_load_blk 113 _ rfl bN rfl 113 (nodeC n (.slice na n.kids.length nc)).toArray (0, 0) _ (hS'.heap kN (fun h => h)) Try.underlying113 rfl (by kernel_rfl))); (focus exact hS))
            (try simp only [Act.put, zzT, zzO, zzS])
            apply seq_call2 (fun v w' => v = Value.bool false ∧ Upd (fun _ => False) wc w') rfl (by rfl)
            focus (go_simp; (first | done | exact rfl | exact ⟨rfl, rfl⟩))
            focus (refine (kids_any n na nc _).mono ?_; rintro e w' ⟨rfl, hu⟩; exact ⟨_, rfl, by rw [HKB.out], hS.then hu (fun _ _ h => h)⟩)
            rintro v w5 ⟨rfl, hS2⟩; clear hS; have hS := hS2; clear hS2; refine ⟨fun _ => hS, ?_⟩
            (try simp only [Act.put, zzT, zzO, zzS])
            iterate 19 ((first | (refine seq_skip2 rfl (by rfl) hS ?_) | (apply seq_val2 rfl (by rfl); (focus (intro w' hS'; have s9 := hS'.cell c9 (fun h => h); have s2 := hS'.cell cg2 (fun h => h); go_simp; (first | done | exact rfl | (rw [if_pos (by omega)]; done)))); (focus exact hS))); (try simp only [Act.put, zzT, zzO, zzS]))
            refine seq_nil ?_
            go_wp2
            go_meet
            exact ⟨congrArg Value.bool (by rw [HB1.out, HKB.out]; simp [*]), hS⟩
          · have HKB := Lib.hid hkb
            clear hkb
            cases nb
            · clear hlt3
              refine wp_region_seq (fun v => Upd (fun _ => False) wc v) (fun i => i != 99) [(0, true), (1, false), (2, true), (3, true), (4, true), (5, true), (6, true), (7, true), (8, true), (9, true), (10, true), (11, true), (12, true), (13, true), (14, true), (15, true), (16, true), (17, true), (18, true), (19, true), (20, true)] (by exact rfl) (by kernel_rfl) (by intro c a d v w h; cases d <;> exact h) ?_
              have hS : Upd (fun _ => False) wc wc.drew := (Upd.refl _ wc).drew
              (apply seq_val2 rfl (by rfl); (focus (intro w' hS'; have s9 := hS'.cell c9 (fun h => h); have s2 := hS'.cell cg2 (fun h => h); exact exec_load_blk 113 _ rfl bN rfl 113 (nodeC n (.slice na n.kids.length nc)).toArray (0, 0) _ (hS'.heap kN (fun h => h)) Try.underlying113 rfl (by kernel_rfl))); (focus exact hS))
              (try simp only [Act.put, zzT, zzO, zzS])
              apply seq_call2 (fun v w' => v = Value.bool true ∧ Upd (fun _ => False) wc w') rfl (by rfl)
              focus (go_simp; (first | done | exact rfl | exact ⟨rfl, rfl⟩))
              focus (refine (kids_any n na nc _).mono ?_; rintro e w' ⟨rfl, hu⟩; exact ⟨_, rfl, by rw [HKB.out], hS.then hu (fun _ _ h => h)⟩)
              rintro v w5 ⟨rfl, hS2⟩; clear hS; have hS := hS2; clear hS2; refine ⟨fun _ => hS, ?_⟩
              (try simp only [Act.put, zzT, zzO, zzS])
              iterate 19 ((first | (refine seq_skip2 rfl (by rfl) hS ?_) | (apply seq_val2 rfl (by rfl); (focus (intro w' hS'; have s9 := hS'.cell c9 (fun h => h); have s2 := hS'.cell cg2 (fun h => h); go_simp; (first | done | exact rfl | (rw [if_pos (by omega)]; done)))); (focus exact hS))); (try simp only [Act.put, zzT, zzO, zzS]))
              refine seq_nil ?_
              go_wp2
              go_meet
              exact ⟨congrArg Value.bool (by rw [HB1.out, HKB.out]; simp [*]), hS⟩
            · by_cases h1 : n.n < 1
              · have g1 : decide (n.n < 1) = true := by simpa using h1
                have HG1 := Lib.hid g1
                refine wp_region_seq (fun v => Upd (fun _ => False) wc v) (fun i => i != 99) [(0, true), (1, false), (2, true), (3, true), (4, true), (5, true), (6, true), (7, true), (8, true), (9, true), (10, true), (11, true), (12, true), (13, true), (14, true), (15, true), (16, true), (17, true), (18, true), (19, true), (20, true)] (by exact rfl) (by kernel_rfl) (by intro c a d v w h; cases d <;> exact h) ?_
                have hS : Upd (fun _ => False) wc wc.drew := (Upd.refl _ wc).drew
                (apply seq_val2 rfl (by rfl); (focus (intro w' hS'; have s9 := hS'.cell c9 (fun h => h); have s2 := hS'.cell cg2 (fun h => h); exact exec_load_blk 113 _ rfl bN rfl 113 (nodeC n (.slice na n.kids.length nc)).toArray (0, 0) _ (hS'.heap kN (fun h => h)) Try.underlying113 rfl (by kernel_rfl))); (focus exact hS))
                (try simp only [Act.put, zzT, zzO, zzS])
                apply seq_call2 (fun v w' => v = Value.bool true ∧ Upd (fun _ => False) wc w') rfl (by rfl)
                focus (go_simp; (first | done | exact rfl | exact ⟨rfl, rfl⟩))
                focus (refine (kids_any n na nc _).mono ?_; rintro e w' ⟨rfl, hu⟩; exact ⟨_, rfl, by rw [HKB.out], hS.then hu (fun _ _ h => h)⟩)
                rintro v w5 ⟨rfl, hS2⟩; clear hS; have hS := hS2; clear hS2; refine ⟨fun _ => hS, ?_⟩
                (try simp only [Act.put, zzT, zzO, zzS])
                iterate 19 ((first | (refine seq_skip2 rfl (by rfl) hS ?_) | (apply seq_val2 rfl (by rfl); (focus (intro w' hS'; have s9 := hS'.cell c9 (fun h => h); have s2 := hS'.cell cg2 (fun h => h); go_simp; (first | done | exact rfl | (rw [if_pos (by omega)]; done)))); (focus exact hS))); (try simp only [Act.put, zzT, zzO, zzS]))
                refine seq_nil ?_
                go_wp2
                go_meet
                exact ⟨congrArg Value.bool (by rw [HB1.out, HKB.out]; rw [HG1.out]; rfl), hS⟩
              · have g1 : decide (n.n < 1) = false := by simpa using h1
                have HG1 := Lib.hid g1
                refine wp_region_seq (fun v => Upd (fun _ => False) wc v) (fun i => i != 99) [(0, true), (1, false), (2, true), (3, true), (4, true), (5, true), (6, true), (7, true), (8, true), (9, true), (10, true), (11, true), (12, true), (13, true), (14, true), (15, true), (16, true), (17, true), (18, true), (19, true), (20, true)] (by exact rfl) (by kernel_rfl) (by intro c a d v w h; cases d <;> exact h) ?_
                have hS : Upd (fun _ => False) wc wc.drew := (Upd.refl _ wc).drew
                (apply seq_val2 rfl (by rfl); (focus (intro w' hS'; have s9 := hS'.cell c9 (fun h => h); have s2 := hS'.cell cg2 (fun h => h); exact exec_load_blk 113 _ rfl bN rfl 113 (nodeC n (.slice na n.kids.length nc)).toArray (0, 0) _ (hS'.heap kN (fun h => h)) Try.underlying113 rfl (by kernel_rfl))); (focus exact hS))
                (try simp only [Act.put, zzT, zzO, zzS])
                apply seq_call2 (fun v w' => v = Value.bool true ∧ Upd (fun _ => False) wc w') rfl (by rfl)
                focus (go_simp; (first | done | exact rfl | exact ⟨rfl, rfl⟩))
                focus (refine (kids_any n na nc _).mono ?_; rintro e w' ⟨rfl, hu⟩; exact ⟨_, rfl, by rw [HKB.out], hS.then hu (fun _ _ h => h)⟩)
                rintro v w5 ⟨rfl, hS2⟩; clear hS; have hS := hS2; clear hS2; refine ⟨fun _ => hS, ?_⟩
                (try simp only [Act.put, zzT, zzO, zzS])
                iterate 19 ((first | (refine seq_skip2 rfl (by rfl) hS ?_) | (apply seq_val2 rfl (by rfl); (focus (intro w' hS'; have s9 := hS'.cell c9 (fun h => h); have s2 := hS'.cell cg2 (fun h => h); go_simp; (first | done | exact rfl | (rw [if_pos (by omega)]; done)))); (focus exact hS))); (try simp only [Act.put, zzT, zzO, zzS]))
                refine seq_nil ?_
                go_wp2
                go_meet
                exact ⟨congrArg Value.bool (by rw [HB1.out, HKB.out]; rw [HG1.out]; simp), hS⟩
        case rest =>
          obtain ⟨rfl, hu1⟩ := hcut
          clear cN fN c0 f0 cS fS cG fG; replace kN := (hu1).heap kN (fun h => h); replace k0 := (hu1).heap k0 (fun h => h); replace kS := (hu1).heap kS (fun h => h); replace kG := (hu1).heap kG (fun h => h); replace hz := Nat.le_trans hz (hu1).size; replace hU0 := hU0.then hu1 (fun _ _ h => h.elim); have cN := cells_of kN; (try simp only [rdC, nodeC, tokC, setC, zzT, zzO, zzS] at cN); have fN := frees_of kN; have c0 := cells_of k0; (try simp only [rdC, nodeC, tokC, setC, zzT, zzO, zzS] at c0); have f0 := frees_of k0; have cS := cells_of kS; (try simp only [rdC, nodeC, tokC, setC, zzT, zzO, zzS] at cS); have fS := frees_of kS; have cG := cells_of kG; (try simp only [rdC, nodeC, tokC, setC, zzT, zzO, zzS] at cG); have fG := frees_of kG
          clear hu1
          cases B1
          · have HB2 : Hid (fineN p n = !bad2 n) := Lib.hid (by rw [fineN_bad, HBB1.out]; rfl)
            obtain ⟨B2, hB2⟩ : ∃ B2, bad2 n = B2 := ⟨_, rfl⟩
            have HB3 : Hid (B2 = (n.op == 7 && (decide (n.min < 0) || decide (60 < n.min) || decide (60 < n.max) || decide (0 ≤ n.max) && decide (n.max < n.min)))) := Lib.hid (by rw [← hB2]; rfl)
            rw [hB2] at HB2
            clear hB2
            go_upto_region 8 with fail
            go_simp
            go_cut [102] (fun t w' => t = .bool B2 ∧ w' = wc)
            case first =>
              clear HREC HW HW2 hlt3 cS fS cG fG c0 f0
              by_cases h7 : n.op = 7
              · have g7 : (n.op == 7) = true := by simpa using h7
                have HB4 := Lib.hid HB3.out
                rw [g7, Bool.true_and] at HB4
                clear h7
                by_cases h0 : n.min < 0
                · go_wp2
                  go_meet
                  exact ⟨congrArg Value.bool (by rw [HB4.out]; simp [h0]), rfl⟩
                · by_cases h60 : 60 < n.min
                  · go_wp2
                    go_meet
                    exact ⟨congrArg Value.bool (by rw [HB4.out]; simp [h60]), rfl⟩
                  · by_cases hx : 60 < n.max
                    · go_wp2
                      go_meet
                      exact ⟨congrArg Value.bool (by rw [HB4.out]; simp [hx]), rfl⟩
                    · have HB5 : Hid (B2 = (decide (0 ≤ n.max) && decide (n.max < n.min))) := Lib.hid (by rw [HB4.out]; simp [h0, h60, hx])
                      clear HB4
                      by_cases hm0 : 0 ≤ n.max
                      · go_wp2
                        go_meet
                        exact ⟨congrArg Value.bool (by rw [HB5.out, Bool.eq_iff_iff]; simp; omega), rfl⟩
                      · go_wp2
                        go_meet
                        exact ⟨congrArg Value.bool (by rw [HB5.out, Bool.eq_iff_iff]; simp; omega), rfl⟩
              · have g7 : (n.op == 7) = false := by simpa using h7
                have HB4 : Hid (B2 = false) := Lib.hid (by rw [HB3.out, g7]; rfl)
                clear h7
                go_wp2
                go_meet
                exact ⟨congrArg Value.bool (by rw [HB4.out]), rfl⟩
            case rest =>
              obtain ⟨rfl, rfl⟩ := hcut
              cases B2
              · have HQ2 := Lib.hid HQ.out
                rw [if_neg (by rw [HB2.out]; decide)] at HQ2
                cases hsl : soundL (soundF p f) n.kids (seen.set k true) with
                | none => rw [hsl] at HQ2; exact absurd HQ2.out (by simp)
                | some q =>
                  obtain ⟨bR, snR⟩ := q
                  rw [hsl] at HQ2
                  have HSL := Lib.hid hsl
                  have HWc := Lib.hid (HW.out.mark kS hU0 (by simp))
                  have HBN : Hid (¬ bN = bS) := Lib.hid (by omega)
                  have HFN : Hid (kidsB n = true) := Lib.hid (by have h1 := HBB1.out; unfold bad1 at h1; cases hk : kidsB n; rw [hk] at h1; simp at h1; rfl)
                  clear hsl HQ kG kS k0 c0 f0 cS fS cG fG cN fN hlt3 hlt2
                  go_wp2_with fail
                  go_loopg [7] n.kids.length (fun gk iv wr => ∃ (i : Nat) (sn : List Bool), iv = .int .i64 (i : Nat) ∧ i + gk = n.kids.length ∧ Hid (soundL (soundF p f) (n.kids.drop i) sn = some (bR, snR)) ∧ Hid (∀ j, j ∈ n.kids.take i → InR p j) ∧ WkAt wr bW bS p (.slice (some ⟨g, 0, none⟩) p.nodes.length gc) kvs sn ∧ wr.heap[bN]? = some (.cells (nodeC n (.slice na n.kids.length nc)).toArray 113 (0, 0)) ∧ Upd (fun j => j = bS) w wr)
                  case atStart => exact ⟨0, _, rfl, by omega, HSL, Lib.hid (fun j hj => by simp at hj), HWc.out, kN, hU0⟩
                  case round =>
                    clear kN hU0 hz HWc HSL
                    obtain ⟨i, sn, rfl, hi, hE, hT, hWr, kN, hU0⟩ := hrel
                    have hz := hU0.size
                    have HWr := Lib.hid hWr
                    clear hWr
                    by_cases hlt : i < n.kids.length
                    · obtain ⟨a2, c2, e, hh⟩ := HN.out.upd hU0 (fun g hg e => HSP.out (by rw [hg, e]))
                      injection e with e1 e2 e3
                      obtain ⟨b0, o0, hb, hc0⟩ := hh i hlt
                      subst e1
                      subst hb
                      clear hh e2 e3
                      obtain ⟨j, hj⟩ : ∃ j, n.kids[i] = j := ⟨_, rfl⟩
                      rw [hj] at hc0
                      have HJ := Lib.hid hj
                      have hE2 := hE.out
                      rw [List.drop_eq_getElem_cons hlt, hj] at hE2
                      obtain ⟨b1, s2, hrj, hs1, hs2⟩ := soundL_cons hE2
                      have HRJ := Lib.hid hrj
                      clear hj hE hE2
                      have cN10 := cell_of kN 10 (v := .slice (some ⟨b0, o0, none⟩) n.kids.length nc) rfl
                      have hil : (i : Int) < (n.kids.length : Int) := by omega
                      cases b1
                      · have HS1 := Lib.hid (hs1 rfl)
                        clear hs1 hs2 hrj
                        go_wp2_with (first
                          | (go_at_call 64; refine (HREC.out _ j sn _ s2 HWr.out HRJ.out).mono ?_; rintro e w2 ⟨rfl, hW2, hu2⟩; have HW2 := Lib.hid hW2; have kN2 := hu2.heap kN HBN.out; have hU2 := hU0.then hu2 (fun _ _ h => h); clear hW2 hu2))
                        go_ret
                        have e := HS1.out
                        rw [Prod.mk.injEq] at e
                        obtain ⟨rfl, rfl⟩ := e
                        have e2 := Option.some.inj HQ2.out
                        rw [Prod.mk.injEq] at e2
                        obtain ⟨rfl, rfl⟩ := e2
                        exact ⟨rfl, HW2.out, hU2⟩
                      · have HS2 := Lib.hid (hs2 rfl)
                        have HT2 : Hid (∀ j, j ∈ n.kids.take (i + 1) → InR p j) := Lib.hid (fun j hj => by
                          rw [List.take_succ_eq_append_getElem hlt, List.mem_append] at hj
                          rcases hj with hj | hj
                          · exact hT.out j hj
                          · simp only [List.mem_singleton] at hj
                            rw [hj, HJ.out]
                            exact soundF_in p f _ _ _ hrj)
                        have hkn := HKN.out
                        clear hs1 hs2 hrj hT
                        go_wp2_with (first
                          | (go_at_call 64; refine (HREC.out _ j sn _ s2 HWr.out HRJ.out).mono ?_; rintro e w2 ⟨rfl, hW2, hu2⟩; have HW2 := Lib.hid hW2; have kN2 := hu2.heap kN HBN.out; have hU2 := hU0.then hu2 (fun _ _ h => h); clear hW2 hu2))
                        go_roundg (gk - 1)
                        case measure => omega
                        case rel => exact ⟨i + 1, s2, by go_num, by omega, HS2, HT2, HW2.out, kN2, hU2⟩
                    · have hin : i = n.kids.length := by omega
                      have hE2 := hE.out
                      rw [hin, List.drop_length] at hE2
                      unfold soundL at hE2
                      have e := Option.some.inj hE2
                      rw [Prod.mk.injEq] at e
                      obtain ⟨rfl, rfl⟩ := e
                      have hT2 := hT.out
                      rw [hin, List.take_length] at hT2
                      have HT2 := Lib.hid hT2
                      have e2 := Option.some.inj HQ2.out
                      rw [Prod.mk.injEq] at e2
                      obtain ⟨hb, rfl⟩ := e2
                      have HB := Lib.hid hb
                      have cN10 := cell_of kN 10 (v := .slice na n.kids.length nc) rfl
                      have cN0 := cell_of kN 0 (v := .int .u8 n.op) rfl
                      clear hE2 hE hT hT2 hb HQ2
                      by_cases h7 : n.op = 7
                      · have g7 : (n.op != 7) = false := by simpa using h7
                        have hk1 : n.kids.length = 1 := by
                          have := HFN.out
                          unfold kidsB at this
                          rw [if_pos (.inl h7)] at this
                          simpa using this
                        obtain ⟨a2, c2, e, hh⟩ := HN.out.upd hU0 (fun g hg e => HSP.out (by rw [hg, e]))
                        injection e with e1 e2 e3
                        obtain ⟨b0, o0, hb, hc0⟩ := hh 0 (by omega)
                        subst e1
                        subst hb
                        clear hh e2 e3
                        obtain ⟨j0, hj0⟩ : ∃ j0, n.kids[0] = j0 := ⟨_, rfl⟩
                        rw [hj0, Nat.add_zero] at hc0
                        have HIN := Lib.hid (HT2.out j0 (by rw [← hj0]; exact List.getElem_mem _))
                        have HBE : Hid (b = singleB p.nodes j0) := Lib.hid (by
                          have := HB.out
                          rw [g7, Bool.false_or] at this
                          rw [← this]
                          congr 1
                          rw [← hj0]
                          exact headD_get (by omega))
                        have hl2 : 0 < n.kids.length := by omega
                        have hl1 : (0 : Int) < (n.kids.length : Int) := by omega
                        clear h7 hj0 HB hk1
                        go_wp2_with (first
                          | (go_at_call 82; refine (single_any HWr.out j0 HIN.out.1 HIN.out.2 hl (Nat.le_trans (HKL.out j0) (by decide))).mono ?_; rintro e w2 ⟨rfl, hu2⟩))
                        go_ret
                        exact ⟨ret_bool HBE.out.symm, HWr.out.later hu2, hU0.then hu2 (fun _ _ h => h.elim)⟩
                      · have g7 : (n.op != 7) = true := by simpa using h7
                        have HBE : Hid (b = true) := Lib.hid (by have := HB.out; rw [g7, Bool.true_or] at this; exact this.symm)
                        clear h7 HB
                        go_wp2
                        go_ret
                        exact ⟨ret_bool HBE.out.symm, HWr.out, hU0⟩
              · have e := HQ.out
                rw [if_pos (by rw [HB2.out]; rfl)] at e
                have e := Option.some.inj e
                rw [Prod.mk.injEq] at e
                obtain ⟨rfl, rfl⟩ := e
                have HWf := HW.out.mark kS hU0 (by simp)
                clear HQ
                go_wp2
                go_ret
                exact ⟨rfl, HWf, hU0⟩
          · have e := HQ.out
            rw [if_pos (by rw [fineN_bad, HBB1.out]; rfl)] at e
            have e := Option.some.inj e
            rw [Prod.mk.injEq] at e
            obtain ⟨rfl, rfl⟩ := e
            have HWf := HW.out.mark kS hU0 (by simp)
            clear HQ
            go_wp2
            go_ret
            exact ⟨rfl, HWf, hU0⟩
    · have e := hq
      rw [if_pos (.inr hsn)] at e
      have e := Option.some.inj e
      rw [Prod.mk.injEq] at e
      obtain ⟨rfl, rfl⟩ := e
      have hk2 : k < seen.length := by omega
      have ck := cell_of kS k (v := .bool true) (by simp [List.getD_eq_getElem?_getD] at hsn ⊢; rw [List.getElem?_eq_getElem (by omega)] at hsn ⊢; simpa using hsn)
      have HWf := Lib.hid h
      clear h hq hsn
      have c0 := cells_of k0; (try simp only [rdC, nodeC, tokC, setC, zzT, zzO, zzS] at c0); have f0 := frees_of k0
      go_enter Try.func64, Try.ntmps64
      go_wp2
      go_ret
      exact ⟨rfl, HWf.out, hU0⟩
  · have e := hq
    rw [if_pos (.inl (by omega))] at e
    have e := Option.some.inj e
    rw [Prod.mk.injEq] at e
    obtain ⟨rfl, rfl⟩ := e
    have hlt2 : (p.nodes.length : Int) ≤ (k : Int) := by omega
    have HWf := Lib.hid h
    clear h hq
    have c0 := cells_of k0; (try simp only [rdC, nodeC, tokC, setC, zzT, zzO, zzS] at c0); have f0 := frees_of k0
    go_enter Try.func64, Try.ntmps64
    go_wp2
    go_ret
    exact ⟨rfl, HWf.out, hU0⟩
end Go.Proofs.Ytigbfgmgdfnhcaa
