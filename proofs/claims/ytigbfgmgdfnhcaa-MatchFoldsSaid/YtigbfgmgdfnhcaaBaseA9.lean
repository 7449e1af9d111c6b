/- Lemmas that the law's proof stands on, part 9: PatL. No condition. -/
import Derived.Test.YtigbfgmgdfnhcaaBaseA0
import Derived.Deep.LoopGhost
import Derived.Test.YtigbfgmgdfnhcaaBaseA8
set_option linter.all false
set_option linter.unusedVariables false
set_option linter.unusedSimpArgs false
namespace Go.Proofs.Ytigbfgmgdfnhcaa
open Go.RowKit
theorem rBoth_set (x y : SetD) (w : World) : Calls Try.prog 103 #[.agg (setC x), .agg (setC y)] w fun e w' => e = .returned (.agg (setC (x.both y))) ∧ Below w.heap.size w w' := rBoth_any _ _ _ _ _ _ _ _ w
theorem rNot_set (x : SetD) (w : World) : Calls Try.prog 101 #[.agg (setC x)] w fun e w' => e = .returned (.agg (setC x.not)) ∧ Below w.heap.size w w' := rNot_any _ _ _ _ w
theorem rWith_set (x : SetD) (c : Int) (h0 : 0 ≤ c) (h1 : c ≤ 255) (w : World) : Calls Try.prog 105 #[.agg (setC x), .int .u8 c] w fun e w' => e = .returned (.agg (setC (x.add c))) ∧ Below w.heap.size w w' := rWith_any _ _ _ _ _ h0 h1 w
theorem letterF_rng (c : Int) : 0 ≤ (letterF c).1 ∧ (letterF c).1 ≤ 255 := by
  unfold letterF
  repeat' (first | exact ⟨by decide, by decide⟩ | split)
theorem itemF_facts (l : List UInt8) (i : Nat) : 0 ≤ (itemF l i).1 ∧ (itemF l i).1 ≤ 255 ∧ i + 1 ≤ (itemF l i).2 ∧ (itemF l i).2 ≤ i + 2 := by
  have h1 := bl_rng l i
  have h2 := bl_rng l (i + 1)
  have h3 := letterF_rng (bl l (i + 1))
  unfold itemF
  split
  · exact ⟨h1.1, h1.2, by simp, by simp⟩
  · split
    · exact ⟨h3.1, h3.2, by simp, by simp⟩
    · split
      · exact ⟨by simp, by simp, by simp, by simp⟩
      · split
        · exact ⟨h2.1, h2.2, by simp, by simp⟩
        · exact ⟨h1.1, h1.2, by simp, by simp⟩
theorem skipF_ge (l : List UInt8) : ∀ (f k : Nat), k ≤ skipF l f k
  | 0, k => Nat.le_refl _
  | f + 1, k => by
    unfold skipF
    split
    · exact Nat.le_trans (Nat.le_succ k) (skipF_ge l f (k + 1))
    · exact Nat.le_refl _
theorem nameF_facts (l : List UInt8) (i : Nat) (h : (nameF l i).2.2 = true) : i + 1 ≤ (nameF l i).2.1 ∧ (nameF l i).2.1 ≤ l.length := by
  have hk := skipF_ge l l.length (i + 2)
  unfold nameF at h ⊢
  split at h
  · cases h
  · split at h
    · cases h
    · rename_i h1 h2
      rw [if_neg h1, if_neg h2]
      simp only []
      omega
theorem item_pre (s : ByteArray) (rb j : Nat) (n : Int) (hn : n = (j : Nat)) (hs : s.size ≤ 1000) (hj : j < s.size) : ∃ (lo : Int) (k : Nat), Hid (itemF s.data.toList j = (lo, k)) ∧ 0 ≤ lo ∧ lo ≤ 255 ∧ j + 1 ≤ k ∧ k ≤ j + 2 ∧
    ∀ w : World, w.cell? ⟨rb, 0, none⟩ = some (.string s) → Calls Try.prog 104 #[.pointer (some ⟨rb, 0, none⟩), .int .i64 n] w fun e w' => e = .returned (.tuple #[.int .u8 lo, .int .i64 (k : Nat)]) ∧ w = w' := by
  subst hn
  obtain ⟨h1, h2, h3, h4⟩ := itemF_facts s.data.toList j
  exact ⟨_, _, Lib.hid rfl, h1, h2, h3, h4, fun w hc => item_any s rb j w hs hj hc⟩
theorem name_pre (s : ByteArray) (rb j : Nat) (hs : s.size ≤ 1000) (hj : j < s.size) : ∃ (x : SetD) (k : Nat) (is : Bool), Hid (nameF s.data.toList j = (x, k, is)) ∧ (is = true → j + 1 ≤ k ∧ k ≤ s.size) ∧
    ∀ w : World, w.cell? ⟨rb, 0, none⟩ = some (.string s) → Calls Try.prog 102 #[.pointer (some ⟨rb, 0, none⟩), .int .i64 (j : Nat)] w fun e w' => e = .returned (.tuple #[.agg (setC x), .int .i64 (k : Nat), .bool is]) ∧ Below w.heap.size w w' := by
  refine ⟨_, _, _, Lib.hid rfl, fun h => ?_, fun w hc => name_any s rb j w hs hj hc⟩
  have := nameF_facts s.data.toList j h
  have hl : s.data.toList.length = s.size := by simp
  rw [hl] at this
  exact this
/-- Behind a byte of a collection a range goes on. -/
def goesB (l : List UInt8) (k : Nat) : Bool := decide (k + 1 < l.length) && bl l k == 45 && bl l (k + 1) != 93
theorem highF_no {l : List UInt8} {lo : Int} {k : Nat} (h : goesB l k = false) : highF l lo k = (lo, k) := by
  unfold highF
  rw [if_neg]
  rintro ⟨h1, h2, h3⟩
  simp [goesB, h1, h2, h3] at h
theorem highF_yes {l : List UInt8} {lo : Int} {k : Nat} (h : goesB l k = true) : highF l lo k = itemF l (k + 1) ∧ k + 1 < l.length := by
  unfold highF
  simp only [goesB, Bool.and_eq_true, decide_eq_true_eq, beq_iff_eq, bne_iff_ne] at h
  rw [if_pos ⟨h.1.1, h.1.2, h.2⟩]
  exact ⟨rfl, h.1.1⟩
theorem goesB_out {s : ByteArray} {k : Nat} (h : ¬ k + 1 < s.size) : goesB s.data.toList k = false := by
  have hl : s.data.toList.length = s.size := by simp
  rw [goesB, hl, decide_eq_false h, Bool.false_and, Bool.false_and]
theorem goesB_in {s : ByteArray} {k : Nat} (h : k + 1 < s.size) : goesB s.data.toList k = (((s[k].toNat : Int) == 45) && ((s[k + 1].toNat : Int) != 93)) := by
  have hl : s.data.toList.length = s.size := by simp
  rw [goesB, hl, decide_eq_true h, Bool.true_and, ← bl_at h, ← bl_at (show k < s.size by omega)]
theorem goesB_no1 {s : ByteArray} {k : Nat} (h : k + 1 < s.size) (q : (((s[k]'(Nat.lt_of_succ_lt h)).toNat : Int) == 45) = false) : goesB s.data.toList k = false := by rw [goesB_in h, q]; rfl
theorem goesB_yes1 {s : ByteArray} {k : Nat} (h : k + 1 < s.size) (q : (((s[k]'(Nat.lt_of_succ_lt h)).toNat : Int) == 45) = true) : goesB s.data.toList k = ((s[k + 1].toNat : Int) != 93) := by rw [goesB_in h, q, Bool.true_and]
theorem goesB_no2 {s : ByteArray} {k : Nat} (h : k + 1 < s.size) (q : ¬ ((s[k]'(Nat.lt_of_succ_lt h)).toNat : Int) = 45) : goesB s.data.toList k = false := goesB_no1 h (by simpa using q)
theorem goesB_yes2 {s : ByteArray} {k : Nat} (h : k + 1 < s.size) (q : ((s[k]'(Nat.lt_of_succ_lt h)).toNat : Int) = 45) : goesB s.data.toList k = ((s[k + 1].toNat : Int) != 93) := goesB_yes1 h (by simp [q])
theorem coll_out {l : List UInt8} {nt : Bool} {f : Nat} {set : SetD} {fl fi : Bool} {j : Nat} (h : l.length ≤ j) : collL l nt f set fl fi j = none := by
  cases f with
  | zero => rfl
  | succ f => unfold collL; rw [if_pos h]
theorem coll_end {l : List UInt8} {nt : Bool} {f : Nat} {set : SetD} {fl : Bool} {j : Nat} (h : j < l.length) (hc : bl l j = 93) : collL l nt (f + 1) set fl false j = some (if nt = true then set.not else set, j + 1, fl) := by
  unfold collL; rw [if_neg (by omega), if_pos ⟨hc, rfl⟩]
theorem coll_name {l : List UInt8} {nt : Bool} {f : Nat} {set x : SetD} {fl fi : Bool} {j k : Nat} (h : j < l.length) (hc : ¬ (bl l j = 93 ∧ fi = false)) (hn : nameF l j = (x, k, true)) : collL l nt (f + 1) set fl fi j = collL l nt f (set.both x) fl false k := by
  rw [collL, if_neg (by omega), if_neg hc, hn]
  simp only [if_pos]
theorem coll_item {l : List UInt8} {nt : Bool} {f : Nat} {set x : SetD} {fl fi : Bool} {j k k2 k3 : Nat} {lo hi : Int} (h : j < l.length) (hc : ¬ (bl l j = 93 ∧ fi = false)) (hn : nameF l j = (x, k, false)) (hi1 : itemF l j = (lo, k2)) (hi2 : highF l lo k2 = (hi, k3)) :
    collL l nt (f + 1) set fl fi j = collL l nt f (set.adds lo (hi + 1 - lo).toNat) (fl || decide (hi < lo)) false k3 := by
  rw [collL, if_neg (by omega), if_neg hc, hn, hi1, hi2]
  simp only [if_neg Bool.false_ne_true]
theorem coll_none {st : RdD} {l : List UInt8} {o j0 : Nat} {nt : Bool} {T : Option (SetD × Nat × Bool)} (h1 : caretB l (o + 1) = nt) (h2 : j0 = if nt = true then o + 2 else o + 1) (h3 : collL l nt (l.length + 1) .zero false true j0 = T) (h4 : T = none) : st.collection l o = (.zero, 0, st) := by
  unfold RdD.collection
  rw [h1, ← h2, h3, h4]
theorem coll_some {st : RdD} {l : List UInt8} {o j0 e : Nat} {nt fl : Bool} {x : SetD} {T : Option (SetD × Nat × Bool)} (h1 : caretB l (o + 1) = nt) (h2 : j0 = if nt = true then o + 2 else o + 1) (h3 : collL l nt (l.length + 1) .zero false true j0 = T) (h4 : T = some (x, e, fl)) : st.collection l o = (x, e, if fl = true then st.wrong 30 o else st) := by
  unfold RdD.collection
  rw [h1, ← h2, h3, h4]
theorem RdAt.lts {w : World} {B rb : Nat} {s : ByteArray} {st : RdD} {nv : Value} {kvs : List Value} {Z : Nat → Prop} (h : RdAt w B rb s st nv kvs Z) : rb < w.heap.size ∧ (∀ g, nv.ownBlock = some g → g < w.heap.size) ∧ ∀ k, Z k → k < w.heap.size :=
  ⟨heap_lt h.blk, fun g hg => (h.own.lt g hg).2, fun k hk => by obtain ⟨cs, fr, hc⟩ := h.zone k hk; exact heap_lt hc⟩
/-- The world turns at places that are new since an elder world. -/
theorem RdAt.newer {W w w' : World} {B rb : Nat} {s : ByteArray} {st st0 : RdD} {nv : Value} {kvs : List Value} {Z : Nat → Prop} (h0 : RdAt W B rb s st0 nv kvs Z) (h : RdAt w B rb s st nv kvs Z) (hu : Upd (fun k => W.heap.size ≤ k) w w') : RdAt w' B rb s st nv kvs Z := by
  obtain ⟨h1, h2, h3⟩ := h0.lts
  exact h.upd hu (by omega) (fun g hg => by have := h2 g hg; omega) (fun k hk => by have := h3 k hk; omega)
def CollPost (w : World) (B rb : Nat) (s : ByteArray) (st : RdD) (nv : Value) (kvs : List Value) (Z : Nat → Prop) (o : Nat) (e : Ending) (w' : World) : Prop :=
  e = .returned (.tuple #[.agg (setC (st.collection s.data.toList o).1), .int .i64 ((st.collection s.data.toList o).2.1 : Nat)]) ∧ RdAt w' B rb s (st.collection s.data.toList o).2.2 nv kvs Z ∧ Upd (fun k => k = rb) w w'
set_option maxRecDepth 100000 in
set_option maxHeartbeats 8000000 in
theorem collection_any {w : World} {B rb : Nat} {s : ByteArray} {st : RdD} {nv : Value} {kvs : List Value} {Z : Nat → Prop} (h : RdAt w B rb s st nv kvs Z) (hs : s.size ≤ 1000) (o : Nat) (ho : o ≤ 1000) :
    Calls Try.prog 89 #[.pointer (some ⟨rb, 0, none⟩), .int .i64 o] w (CollPost w B rb s st nv kvs Z o) := by
  have hU0 := Upd.refl (fun _ => False) w
  have hz : w.heap.size ≤ w.heap.size := Nat.le_refl _
  have HL : Hid (s.data.toList.length = s.size) := Lib.hid (by simp)
  have HR := Lib.hid h
  have k0 := h.blk
  clear h
  have c0 := cells_of k0; (try simp only [rdC, nodeC, tokC, setC, zzT, zzO, zzS] at c0); have f0 := frees_of k0
  go_enter Try.func89, Try.ntmps89
  go_upto_region 2 with (first
    | ((with_reducible refine stopAl 61 rfl ?_); unfold Stop; refine wpList_alloc_blk rfl 61 rfl (.agg #[.int .u64 0, .int .u64 0, .int .u64 0, .int .u64 0]) (by kernel_rfl) #[.int .u64 0, .int .u64 0, .int .u64 0, .int .u64 0] rfl ?_; intro bR wn hbn kn hUn hsn; clear c0 f0; have l0R := heap_lt k0; rw [hbn] at l0R; replace k0 := hUn.heap k0 (fun h => h); have gR : w.heap.size ≤ bR := Nat.le_trans hU0.size (Nat.le_of_eq hbn); have kR := kn; replace hU0 := hU0.then hUn (fun _ _ h => h.elim); replace hz : w.heap.size ≤ wn.heap.size := (by omega); clear kn hUn hsn hbn; have cR := cells_of kR; (try simp only [rdC, nodeC, tokC, setC, zzT, zzO, zzS] at cR); have fR := frees_of kR; have c0 := cells_of k0; (try simp only [rdC, nodeC, tokC, setC, zzT, zzO, zzS] at c0); have f0 := frees_of k0))
  go_simp
  go_cut [7] (fun t w' => t = .bool (atB s.data.toList (o + 1) 94) ∧ w' = wn)
  case first =>
    go_wp2
    all_goals
      go_meet
      exact ⟨congrArg Value.bool (by first | exact (atB_in (i := o + 1) (by omega) 94).symm | exact (atB_out (i := o + 1) (by omega) 94).symm), rfl⟩
  case rest =>
    obtain ⟨rfl, rfl⟩ := hcut
    have hnt : Hid (caretB s.data.toList (o + 1) = atB s.data.toList (o + 1) 94) := Lib.hid rfl
    generalize atB s.data.toList (o + 1) 94 = nt at *
    go_upto_if 36 with fail
    go_cut [6] (fun t w' => ∃ j : Nat, t = .int .i64 (j : Nat) ∧ Hid (j = if nt = true then o + 2 else o + 1) ∧ j ≤ 1002 ∧ w' = wc)
    case first =>
      cases nt
      · go_wp2
        go_meet
        exact ⟨o + 1, by go_num, Lib.hid rfl, by omega, rfl⟩
      · go_wp2
        go_meet
        exact ⟨o + 2, by go_num, Lib.hid rfl, by omega, rfl⟩
    case rest =>
      obtain ⟨j0, rfl, hj0, hj1, rfl⟩ := hcut
      obtain ⟨T, hT⟩ : ∃ T, collL s.data.toList nt (s.size + 1) .zero false true j0 = T := ⟨_, rfl⟩
      have HT := Lib.hid hT
      have HTL : Hid (collL s.data.toList nt (s.data.toList.length + 1) .zero false true j0 = T) := Lib.hid (by rw [HL.out]; exact hT)
      clear hT
      go_wp2_with (first
        | ((with_reducible refine stopAl 61 rfl ?_); unfold Stop; refine wpList_alloc_blk rfl 61 rfl (.agg #[.int .u64 0, .int .u64 0, .int .u64 0, .int .u64 0]) (by kernel_rfl) #[.int .u64 0, .int .u64 0, .int .u64 0, .int .u64 0] rfl ?_; intro bS wn hbn kn hUn hsn; clear cR fR c0 f0; have lRS := heap_lt kR; rw [hbn] at lRS; replace kR := hUn.heap kR (fun h => h); have l0S := heap_lt k0; rw [hbn] at l0S; replace k0 := hUn.heap k0 (fun h => h); have gS : w.heap.size ≤ bS := Nat.le_trans hU0.size (Nat.le_of_eq hbn); have kS := kn; replace hU0 := hU0.then hUn (fun _ _ h => h.elim); replace hz : w.heap.size ≤ wn.heap.size := (by omega); clear kn hUn hsn hbn; have cS := cells_of kS; (try simp only [rdC, nodeC, tokC, setC, zzT, zzO, zzS] at cS); have fS := frees_of kS; have cR := cells_of kR; (try simp only [rdC, nodeC, tokC, setC, zzT, zzO, zzS] at cR); have fR := frees_of kR; have c0 := cells_of k0; (try simp only [rdC, nodeC, tokC, setC, zzT, zzO, zzS] at c0); have f0 := frees_of k0)
        | ((with_reducible refine stopSt 61 _ _ rfl ?_); unfold Stop; refine wpList_store_blk rfl 61 _ _ rfl _ _ rfl _ (by go_simp; first | done | exact rfl) _ _ _ kS (zzB rfl) (by kernel_rfl) rfl (by simp only [spl, rdC, nodeC, tokC, setC, Value.cells, zzT, zzO, zzS, Array.toList]; exact rfl) ?_; intro wn kn hUn hsn; clear cS fS cR fR c0 f0; replace kR := hUn.heap kR (by omega); replace k0 := hUn.heap k0 (by omega); replace kS := kn; replace hU0 := hU0.then hUn (fun i hi (e : i = _) => by first | exact e | exact absurd hi (by omega) | (subst e; first | assumption | (show _ ≤ _; omega)) | exact .inl e | exact .inr e | exact .inr (.inl e) | exact .inr (.inr e)); replace hz := Nat.le_trans hz (Nat.le_of_eq hsn.symm); clear kn hUn hsn; have cS := cells_of kS; (try simp only [rdC, nodeC, tokC, setC, zzT, zzO, zzS] at cS); have fS := frees_of kS; have cR := cells_of kR; (try simp only [rdC, nodeC, tokC, setC, zzT, zzO, zzS] at cR); have fR := frees_of kR; have c0 := cells_of k0; (try simp only [rdC, nodeC, tokC, setC, zzT, zzO, zzS] at c0); have f0 := frees_of k0))
      clear c0 f0 cR fR cS fS
      go_loopg [6, 9, 10] (s.size + 1) (fun gk at_ fv sv wr => ∃ (j : Nat) (fl fi : Bool) (set : SetD), at_ = .int .i64 (j : Nat) ∧ fv = .bool fl ∧ sv = .bool fi ∧ Hid (collL s.data.toList nt gk set fl fi j = T) ∧ s.size + 1 ≤ gk + j ∧ j ≤ 1003 ∧
        wr.heap[bS]? = some (.cells (setC set) 61 (0, 0)) ∧ wr.heap[bR]? = some (.cells (setC .zero) 61 (0, 0)) ∧ wr.heap[rb]? = some (.cells (rdC s st nv) 96 (0, 0)) ∧ Upd (fun _ => False) w wr ∧ w.heap.size ≤ wr.heap.size)
      case atStart => exact ⟨j0, false, true, .zero, rfl, rfl, rfl, HT, by omega, by omega, kS, kR, k0, hU0, hz⟩
      case round =>
        clear kS kR k0 hU0 hz
        obtain ⟨j, fl, fi, set, rfl, rfl, rfl, hE, hfj, hj, kS, kR, k0, hU0, hz⟩ := hrel
        have cS := cells_of kS; (try simp only [rdC, nodeC, tokC, setC, zzT, zzO, zzS] at cS); have fS := frees_of kS; have cR := cells_of kR; (try simp only [rdC, nodeC, tokC, setC, zzT, zzO, zzS] at cR); have fR := frees_of kR; have c0 := cells_of k0; (try simp only [rdC, nodeC, tokC, setC, zzT, zzO, zzS] at c0); have f0 := frees_of k0
        by_cases hlt : j < s.size
        · obtain ⟨g, rfl⟩ : ∃ g, gk = g + 1 := ⟨gk - 1, by omega⟩
          have hlen : j < s.data.toList.length := by rw [HL.out]; exact hlt
          have hbl := bl_at hlt
          by_cases hend : bl s.data.toList j = 93 ∧ fi = false
          · obtain ⟨he1, rfl⟩ := hend
            have HT2 := Lib.hid (hE.out.symm.trans (coll_end hlen he1))
            have hc93 : ((s[j].toNat : Int) == 93) = true := by rw [hbl, he1]; rfl
            clear hE hbl he1
            cases fl
            · cases nt
              all_goals
                go_wp2_with (first
                | (go_at_call 101; refine (rNot_set _ _).mono ?_; rintro e w2 ⟨rfl, hb⟩; have hqq := false_upd2 hb; clear cS fS cR fR c0 f0; replace kS := (hqq).heap kS (fun h => h); replace kR := (hqq).heap kR (fun h => h); replace k0 := (hqq).heap k0 (fun h => h); replace hz := Nat.le_trans hz (hqq).size; replace hU0 := hU0.then hqq (fun _ _ h => h.elim); have cS := cells_of kS; (try simp only [rdC, nodeC, tokC, setC, zzT, zzO, zzS] at cS); have fS := frees_of kS; have cR := cells_of kR; (try simp only [rdC, nodeC, tokC, setC, zzT, zzO, zzS] at cR); have fR := frees_of kR; have c0 := cells_of k0; (try simp only [rdC, nodeC, tokC, setC, zzT, zzO, zzS] at c0); have f0 := frees_of k0; clear hb hqq)
                  | ((with_reducible refine stopLd 61 _ rfl ?_); unfold Stop; refine wpList_load_row rfl 61 _ rfl _ rfl 61 _ (0, 0) _ kS Try.underlying61 rfl (by kernel_rfl) ?_)
                  | ((with_reducible refine stopLd 61 _ rfl ?_); unfold Stop; refine wpList_load_row rfl 61 _ rfl _ rfl 61 _ (0, 0) _ kM Try.underlying61 rfl (by kernel_rfl) ?_)
                  | ((with_reducible refine stopSt 61 _ _ rfl ?_); unfold Stop; refine wpList_store_blk rfl 61 _ _ rfl _ _ rfl _ (by go_simp; first | done | exact rfl) _ _ _ kM (zzB rfl) (by kernel_rfl) rfl (by simp only [spl, rdC, nodeC, tokC, setC, Value.cells, zzT, zzO, zzS, Array.toList]; exact rfl) ?_; intro wn kn hUn hsn; clear cM fM cS fS cR fR c0 f0; replace kS := hUn.heap kS (by omega); replace kR := hUn.heap kR (by omega); replace k0 := hUn.heap k0 (by omega); replace kM := kn; replace hU0 := hU0.then hUn (fun i hi (e : i = _) => by first | exact e | exact absurd hi (by omega) | (subst e; first | assumption | (show _ ≤ _; omega)) | exact .inl e | exact .inr e | exact .inr (.inl e) | exact .inr (.inr e)); replace hz := Nat.le_trans hz (Nat.le_of_eq hsn.symm); clear kn hUn hsn; have cM := cells_of kM; (try simp only [rdC, nodeC, tokC, setC, zzT, zzO, zzS] at cM); have fM := frees_of kM; have cS := cells_of kS; (try simp only [rdC, nodeC, tokC, setC, zzT, zzO, zzS] at cS); have fS := frees_of kS; have cR := cells_of kR; (try simp only [rdC, nodeC, tokC, setC, zzT, zzO, zzS] at cR); have fR := frees_of kR; have c0 := cells_of k0; (try simp only [rdC, nodeC, tokC, setC, zzT, zzO, zzS] at c0); have f0 := frees_of k0)
                  | ((with_reducible refine stopSt 61 _ _ rfl ?_); unfold Stop; refine wpList_store_blk rfl 61 _ _ rfl _ _ rfl _ (by go_simp; first | done | exact rfl) _ _ _ kS (zzB rfl) (by kernel_rfl) rfl (by simp only [spl, rdC, nodeC, tokC, setC, Value.cells, zzT, zzO, zzS, Array.toList]; exact rfl) ?_; intro wn kn hUn hsn; clear cS fS cM fM cR fR c0 f0; replace kM := hUn.heap kM (by omega); replace kR := hUn.heap kR (by omega); replace k0 := hUn.heap k0 (by omega); replace kS := kn; replace hU0 := hU0.then hUn (fun i hi (e : i = _) => by first | exact e | exact absurd hi (by omega) | (subst e; first | assumption | (show _ ≤ _; omega)) | exact .inl e | exact .inr e | exact .inr (.inl e) | exact .inr (.inr e)); replace hz := Nat.le_trans hz (Nat.le_of_eq hsn.symm); clear kn hUn hsn; have cS := cells_of kS; (try simp only [rdC, nodeC, tokC, setC, zzT, zzO, zzS] at cS); have fS := frees_of kS; have cM := cells_of kM; (try simp only [rdC, nodeC, tokC, setC, zzT, zzO, zzS] at cM); have fM := frees_of kM; have cR := cells_of kR; (try simp only [rdC, nodeC, tokC, setC, zzT, zzO, zzS] at cR); have fR := frees_of kR; have c0 := cells_of k0; (try simp only [rdC, nodeC, tokC, setC, zzT, zzO, zzS] at c0); have f0 := frees_of k0)
                  | ((with_reducible refine stopSt 61 _ _ rfl ?_); unfold Stop; refine wpList_store_blk rfl 61 _ _ rfl _ _ rfl _ (by go_simp; first | done | exact rfl) _ _ _ kS (zzB rfl) (by kernel_rfl) rfl (by simp only [spl, rdC, nodeC, tokC, setC, Value.cells, zzT, zzO, zzS, Array.toList]; exact rfl) ?_; intro wn kn hUn hsn; clear cS fS cR fR c0 f0; replace kR := hUn.heap kR (by omega); replace k0 := hUn.heap k0 (by omega); replace kS := kn; replace hU0 := hU0.then hUn (fun i hi (e : i = _) => by first | exact e | exact absurd hi (by omega) | (subst e; first | assumption | (show _ ≤ _; omega)) | exact .inl e | exact .inr e | exact .inr (.inl e) | exact .inr (.inr e)); replace hz := Nat.le_trans hz (Nat.le_of_eq hsn.symm); clear kn hUn hsn; have cS := cells_of kS; (try simp only [rdC, nodeC, tokC, setC, zzT, zzO, zzS] at cS); have fS := frees_of kS; have cR := cells_of kR; (try simp only [rdC, nodeC, tokC, setC, zzT, zzO, zzS] at cR); have fR := frees_of kR; have c0 := cells_of k0; (try simp only [rdC, nodeC, tokC, setC, zzT, zzO, zzS] at c0); have f0 := frees_of k0)
                  | ((with_reducible refine stopSt 61 _ _ rfl ?_); unfold Stop; refine wpList_store_blk rfl 61 _ _ rfl _ _ rfl _ (by go_simp; first | done | exact rfl) _ _ _ kR (zzB rfl) (by kernel_rfl) rfl (by simp only [spl, rdC, nodeC, tokC, setC, Value.cells, zzT, zzO, zzS, Array.toList]; exact rfl) ?_; intro wn kn hUn hsn; clear cR fR cS fS c0 f0; replace kS := hUn.heap kS (by omega); replace k0 := hUn.heap k0 (by omega); replace kR := kn; replace hU0 := hU0.then hUn (fun i hi (e : i = _) => by first | exact e | exact absurd hi (by omega) | (subst e; first | assumption | (show _ ≤ _; omega)) | exact .inl e | exact .inr e | exact .inr (.inl e) | exact .inr (.inr e)); replace hz := Nat.le_trans hz (Nat.le_of_eq hsn.symm); clear kn hUn hsn; have cR := cells_of kR; (try simp only [rdC, nodeC, tokC, setC, zzT, zzO, zzS] at cR); have fR := frees_of kR; have cS := cells_of kS; (try simp only [rdC, nodeC, tokC, setC, zzT, zzO, zzS] at cS); have fS := frees_of kS; have c0 := cells_of k0; (try simp only [rdC, nodeC, tokC, setC, zzT, zzO, zzS] at c0); have f0 := frees_of k0))
                exact bodyPost_ret (v := .tuple #[.agg _, .int .i64 ((j : Int) + 1)]) (results_blk_tmp Try.results89 _ _ bR 61 _ (0, 0) _ rfl kR Try.underlying61 rfl (by kernel_rfl)) rfl ⟨by rw [coll_some hnt.out hj0.out HTL.out HT2.out]; simp [setC], by rw [coll_some hnt.out hj0.out HTL.out HT2.out]; exact HR.out.upd hU0 (fun h => h) (fun _ _ h => h) (fun _ _ h => h), hU0.mono (fun _ _ h => h.elim)⟩
            · have hlt0 := HR.out.lts.1
              cases nt
              all_goals
                go_wp2_with (first
                | (go_at_call 101; refine (rNot_set _ _).mono ?_; rintro e w2 ⟨rfl, hb⟩; have hqq := false_upd2 hb; clear cS fS cR fR c0 f0; replace kS := (hqq).heap kS (fun h => h); replace kR := (hqq).heap kR (fun h => h); replace k0 := (hqq).heap k0 (fun h => h); replace hz := Nat.le_trans hz (hqq).size; replace hU0 := hU0.then hqq (fun _ _ h => h.elim); have cS := cells_of kS; (try simp only [rdC, nodeC, tokC, setC, zzT, zzO, zzS] at cS); have fS := frees_of kS; have cR := cells_of kR; (try simp only [rdC, nodeC, tokC, setC, zzT, zzO, zzS] at cR); have fR := frees_of kR; have c0 := cells_of k0; (try simp only [rdC, nodeC, tokC, setC, zzT, zzO, zzS] at c0); have f0 := frees_of k0; clear hb hqq)
                | (go_at_call 74; refine (wrong_any (HR.out.upd hU0 (fun h => h) (fun _ _ h => h) (fun _ _ h => h)) 30 o).mono ?_; rintro e w2 ⟨rfl, hRd, hW⟩; clear cS fS cR fR c0 f0; replace kS := hW.heap kS (by omega); replace kR := hW.heap kR (by omega); replace hz := Nat.le_trans hz hW.size; have hUA := Lib.hid ((hU0.mono (G := fun k => k = rb) (fun _ _ h => h.elim)).then hW (fun _ _ h => h)); have HRd := Lib.hid hRd; clear hU0 hW hRd k0; have k0 := HRd.out.blk; have hU0 := Upd.refl (fun k => w.heap.size ≤ k) w2; have cS := cells_of kS; (try simp only [rdC, nodeC, tokC, setC, zzT, zzO, zzS] at cS); have fS := frees_of kS; have cR := cells_of kR; (try simp only [rdC, nodeC, tokC, setC, zzT, zzO, zzS] at cR); have fR := frees_of kR; have c0 := cells_of k0; (try simp only [rdC, nodeC, tokC, setC, zzT, zzO, zzS] at c0); have f0 := frees_of k0)
                  | ((with_reducible refine stopLd 61 _ rfl ?_); unfold Stop; refine wpList_load_row rfl 61 _ rfl _ rfl 61 _ (0, 0) _ kS Try.underlying61 rfl (by kernel_rfl) ?_)
                  | ((with_reducible refine stopLd 61 _ rfl ?_); unfold Stop; refine wpList_load_row rfl 61 _ rfl _ rfl 61 _ (0, 0) _ kM Try.underlying61 rfl (by kernel_rfl) ?_)
                  | ((with_reducible refine stopSt 61 _ _ rfl ?_); unfold Stop; refine wpList_store_blk rfl 61 _ _ rfl _ _ rfl _ (by go_simp; first | done | exact rfl) _ _ _ kM (zzB rfl) (by kernel_rfl) rfl (by simp only [spl, rdC, nodeC, tokC, setC, Value.cells, zzT, zzO, zzS, Array.toList]; exact rfl) ?_; intro wn kn hUn hsn; clear cM fM cS fS cR fR c0 f0; replace kS := hUn.heap kS (by omega); replace kR := hUn.heap kR (by omega); replace k0 := hUn.heap k0 (by omega); replace kM := kn; replace hU0 := hU0.then hUn (fun i hi (e : i = _) => by first | exact e | exact absurd hi (by omega) | (subst e; first | assumption | (show _ ≤ _; omega)) | exact .inl e | exact .inr e | exact .inr (.inl e) | exact .inr (.inr e)); replace hz := Nat.le_trans hz (Nat.le_of_eq hsn.symm); clear kn hUn hsn; have cM := cells_of kM; (try simp only [rdC, nodeC, tokC, setC, zzT, zzO, zzS] at cM); have fM := frees_of kM; have cS := cells_of kS; (try simp only [rdC, nodeC, tokC, setC, zzT, zzO, zzS] at cS); have fS := frees_of kS; have cR := cells_of kR; (try simp only [rdC, nodeC, tokC, setC, zzT, zzO, zzS] at cR); have fR := frees_of kR; have c0 := cells_of k0; (try simp only [rdC, nodeC, tokC, setC, zzT, zzO, zzS] at c0); have f0 := frees_of k0)
                  | ((with_reducible refine stopSt 61 _ _ rfl ?_); unfold Stop; refine wpList_store_blk rfl 61 _ _ rfl _ _ rfl _ (by go_simp; first | done | exact rfl) _ _ _ kS (zzB rfl) (by kernel_rfl) rfl (by simp only [spl, rdC, nodeC, tokC, setC, Value.cells, zzT, zzO, zzS, Array.toList]; exact rfl) ?_; intro wn kn hUn hsn; clear cS fS cM fM cR fR c0 f0; replace kM := hUn.heap kM (by omega); replace kR := hUn.heap kR (by omega); replace k0 := hUn.heap k0 (by omega); replace kS := kn; replace hU0 := hU0.then hUn (fun i hi (e : i = _) => by first | exact e | exact absurd hi (by omega) | (subst e; first | assumption | (show _ ≤ _; omega)) | exact .inl e | exact .inr e | exact .inr (.inl e) | exact .inr (.inr e)); replace hz := Nat.le_trans hz (Nat.le_of_eq hsn.symm); clear kn hUn hsn; have cS := cells_of kS; (try simp only [rdC, nodeC, tokC, setC, zzT, zzO, zzS] at cS); have fS := frees_of kS; have cM := cells_of kM; (try simp only [rdC, nodeC, tokC, setC, zzT, zzO, zzS] at cM); have fM := frees_of kM; have cR := cells_of kR; (try simp only [rdC, nodeC, tokC, setC, zzT, zzO, zzS] at cR); have fR := frees_of kR; have c0 := cells_of k0; (try simp only [rdC, nodeC, tokC, setC, zzT, zzO, zzS] at c0); have f0 := frees_of k0)
                  | ((with_reducible refine stopSt 61 _ _ rfl ?_); unfold Stop; refine wpList_store_blk rfl 61 _ _ rfl _ _ rfl _ (by go_simp; first | done | exact rfl) _ _ _ kS (zzB rfl) (by kernel_rfl) rfl (by simp only [spl, rdC, nodeC, tokC, setC, Value.cells, zzT, zzO, zzS, Array.toList]; exact rfl) ?_; intro wn kn hUn hsn; clear cS fS cR fR c0 f0; replace kR := hUn.heap kR (by omega); replace k0 := hUn.heap k0 (by omega); replace kS := kn; replace hU0 := hU0.then hUn (fun i hi (e : i = _) => by first | exact e | exact absurd hi (by omega) | (subst e; first | assumption | (show _ ≤ _; omega)) | exact .inl e | exact .inr e | exact .inr (.inl e) | exact .inr (.inr e)); replace hz := Nat.le_trans hz (Nat.le_of_eq hsn.symm); clear kn hUn hsn; have cS := cells_of kS; (try simp only [rdC, nodeC, tokC, setC, zzT, zzO, zzS] at cS); have fS := frees_of kS; have cR := cells_of kR; (try simp only [rdC, nodeC, tokC, setC, zzT, zzO, zzS] at cR); have fR := frees_of kR; have c0 := cells_of k0; (try simp only [rdC, nodeC, tokC, setC, zzT, zzO, zzS] at c0); have f0 := frees_of k0)
                  | ((with_reducible refine stopSt 61 _ _ rfl ?_); unfold Stop; refine wpList_store_blk rfl 61 _ _ rfl _ _ rfl _ (by go_simp; first | done | exact rfl) _ _ _ kR (zzB rfl) (by kernel_rfl) rfl (by simp only [spl, rdC, nodeC, tokC, setC, Value.cells, zzT, zzO, zzS, Array.toList]; exact rfl) ?_; intro wn kn hUn hsn; clear cR fR cS fS c0 f0; replace kS := hUn.heap kS (by omega); replace k0 := hUn.heap k0 (by omega); replace kR := kn; replace hU0 := hU0.then hUn (fun i hi (e : i = _) => by first | exact e | exact absurd hi (by omega) | (subst e; first | assumption | (show _ ≤ _; omega)) | exact .inl e | exact .inr e | exact .inr (.inl e) | exact .inr (.inr e)); replace hz := Nat.le_trans hz (Nat.le_of_eq hsn.symm); clear kn hUn hsn; have cR := cells_of kR; (try simp only [rdC, nodeC, tokC, setC, zzT, zzO, zzS] at cR); have fR := frees_of kR; have cS := cells_of kS; (try simp only [rdC, nodeC, tokC, setC, zzT, zzO, zzS] at cS); have fS := frees_of kS; have c0 := cells_of k0; (try simp only [rdC, nodeC, tokC, setC, zzT, zzO, zzS] at c0); have f0 := frees_of k0))
                exact bodyPost_ret (v := .tuple #[.agg _, .int .i64 ((j : Int) + 1)]) (results_blk_tmp Try.results89 _ _ bR 61 _ (0, 0) _ rfl kR Try.underlying61 rfl (by kernel_rfl)) rfl ⟨by rw [coll_some hnt.out hj0.out HTL.out HT2.out]; simp [setC], by rw [coll_some hnt.out hj0.out HTL.out HT2.out]; exact HR.out.newer HRd.out hU0, hUA.out.then hU0 (fun i hi (h : _ ≤ i) => absurd hi (by omega))⟩
          · obtain ⟨x, k1, isn, hnm, hk1, hcl⟩ := name_pre s rb j hs hlt
            have HNM := Lib.hid hcl
            have hne : ((s[j].toNat : Int) == 93 && !fi) = false := by
              rw [hbl]
              cases fi
              · simp only [Bool.not_false, Bool.and_true, beq_eq_false_iff_ne, ne_eq]
                exact fun h => hend ⟨h, rfl⟩
              · simp
            clear hcl
            have hdec : ((s[j].toNat : Int) == 93) = false ∨ ((s[j].toNat : Int) == 93) = true ∧ fi = true := by
              cases h93 : ((s[j].toNat : Int) == 93)
              · exact .inl rfl
              · rw [h93] at hne; cases fi
                · cases hne
                · exact .inr ⟨rfl, rfl⟩
            clear hne hbl
            go_upto_region 9 with fail
            go_simp
            go_cut [57] (fun t w' => t = .bool false ∧ w' = wr)
            case first =>
              clear hend hnm hE
              rcases hdec with hdec | ⟨hdec, rfl⟩
              all_goals
                go_wp2
                go_meet
                exact ⟨rfl, rfl⟩
            case rest =>
              obtain ⟨rfl, rfl⟩ := hcut
              clear hdec
              cases isn
              · obtain ⟨lo, k2, hit, hlo0, hlo1, hm1, hm2, hcl⟩ := item_pre s rb j _ rfl hs hlt
                have HIT := Lib.hid hcl
                have HCI := fun hi k3 h => Lib.hid (hE.out.symm.trans (coll_item (hi := hi) (k3 := k3) hlen hend hnm.out hit.out h))
                have HCI2 := Lib.hid HCI
                clear hcl hE hend hnm HCI hk1 hlen
                go_upto_region 22 with (first
                | (go_at_call 102; refine (HNM.out _ (c0 0)).mono ?_; rintro e w2 ⟨rfl, hb⟩; have hqq := false_upd2 hb; clear cS fS cR fR c0 f0; replace kS := (hqq).heap kS (fun h => h); replace kR := (hqq).heap kR (fun h => h); replace k0 := (hqq).heap k0 (fun h => h); replace hz := Nat.le_trans hz (hqq).size; replace hU0 := hU0.then hqq (fun _ _ h => h.elim); have cS := cells_of kS; (try simp only [rdC, nodeC, tokC, setC, zzT, zzO, zzS] at cS); have fS := frees_of kS; have cR := cells_of kR; (try simp only [rdC, nodeC, tokC, setC, zzT, zzO, zzS] at cR); have fR := frees_of kR; have c0 := cells_of k0; (try simp only [rdC, nodeC, tokC, setC, zzT, zzO, zzS] at c0); have f0 := frees_of k0; clear hb hqq)
                | (go_at_call 104; refine (HIT.out _ (c0 0)).mono ?_; rintro e w' ⟨rfl, rfl⟩)
                | ((with_reducible refine stopAl 61 rfl ?_); unfold Stop; refine wpList_alloc_blk rfl 61 rfl (.agg #[.int .u64 0, .int .u64 0, .int .u64 0, .int .u64 0]) (by kernel_rfl) #[.int .u64 0, .int .u64 0, .int .u64 0, .int .u64 0] rfl ?_; intro bM wn hbn kn hUn hsn; clear cS fS cR fR c0 f0; have lSM := heap_lt kS; rw [hbn] at lSM; replace kS := hUn.heap kS (fun h => h); have lRM := heap_lt kR; rw [hbn] at lRM; replace kR := hUn.heap kR (fun h => h); have l0M := heap_lt k0; rw [hbn] at l0M; replace k0 := hUn.heap k0 (fun h => h); have gM : w.heap.size ≤ bM := Nat.le_trans hU0.size (Nat.le_of_eq hbn); have kM := kn; replace hU0 := hU0.then hUn (fun _ _ h => h.elim); replace hz : w.heap.size ≤ wn.heap.size := (by omega); clear kn hUn hsn hbn; have cM := cells_of kM; (try simp only [rdC, nodeC, tokC, setC, zzT, zzO, zzS] at cM); have fM := frees_of kM; have cS := cells_of kS; (try simp only [rdC, nodeC, tokC, setC, zzT, zzO, zzS] at cS); have fS := frees_of kS; have cR := cells_of kR; (try simp only [rdC, nodeC, tokC, setC, zzT, zzO, zzS] at cR); have fR := frees_of kR; have c0 := cells_of k0; (try simp only [rdC, nodeC, tokC, setC, zzT, zzO, zzS] at c0); have f0 := frees_of k0)
                  | ((with_reducible refine stopLd 61 _ rfl ?_); unfold Stop; refine wpList_load_row rfl 61 _ rfl _ rfl 61 _ (0, 0) _ kS Try.underlying61 rfl (by kernel_rfl) ?_)
                  | ((with_reducible refine stopLd 61 _ rfl ?_); unfold Stop; refine wpList_load_row rfl 61 _ rfl _ rfl 61 _ (0, 0) _ kM Try.underlying61 rfl (by kernel_rfl) ?_)
                  | ((with_reducible refine stopSt 61 _ _ rfl ?_); unfold Stop; refine wpList_store_blk rfl 61 _ _ rfl _ _ rfl _ (by go_simp; first | done | exact rfl) _ _ _ kM (zzB rfl) (by kernel_rfl) rfl (by simp only [spl, rdC, nodeC, tokC, setC, Value.cells, zzT, zzO, zzS, Array.toList]; exact rfl) ?_; intro wn kn hUn hsn; clear cM fM cS fS cR fR c0 f0; replace kS := hUn.heap kS (by omega); replace kR := hUn.heap kR (by omega); replace k0 := hUn.heap k0 (by omega); replace kM := kn; replace hU0 := hU0.then hUn (fun i hi (e : i = _) => by first | exact e | exact absurd hi (by omega) | (subst e; first | assumption | (show _ ≤ _; omega)) | exact .inl e | exact .inr e | exact .inr (.inl e) | exact .inr (.inr e)); replace hz := Nat.le_trans hz (Nat.le_of_eq hsn.symm); clear kn hUn hsn; have cM := cells_of kM; (try simp only [rdC, nodeC, tokC, setC, zzT, zzO, zzS] at cM); have fM := frees_of kM; have cS := cells_of kS; (try simp only [rdC, nodeC, tokC, setC, zzT, zzO, zzS] at cS); have fS := frees_of kS; have cR := cells_of kR; (try simp only [rdC, nodeC, tokC, setC, zzT, zzO, zzS] at cR); have fR := frees_of kR; have c0 := cells_of k0; (try simp only [rdC, nodeC, tokC, setC, zzT, zzO, zzS] at c0); have f0 := frees_of k0)
                  | ((with_reducible refine stopSt 61 _ _ rfl ?_); unfold Stop; refine wpList_store_blk rfl 61 _ _ rfl _ _ rfl _ (by go_simp; first | done | exact rfl) _ _ _ kS (zzB rfl) (by kernel_rfl) rfl (by simp only [spl, rdC, nodeC, tokC, setC, Value.cells, zzT, zzO, zzS, Array.toList]; exact rfl) ?_; intro wn kn hUn hsn; clear cS fS cM fM cR fR c0 f0; replace kM := hUn.heap kM (by omega); replace kR := hUn.heap kR (by omega); replace k0 := hUn.heap k0 (by omega); replace kS := kn; replace hU0 := hU0.then hUn (fun i hi (e : i = _) => by first | exact e | exact absurd hi (by omega) | (subst e; first | assumption | (show _ ≤ _; omega)) | exact .inl e | exact .inr e | exact .inr (.inl e) | exact .inr (.inr e)); replace hz := Nat.le_trans hz (Nat.le_of_eq hsn.symm); clear kn hUn hsn; have cS := cells_of kS; (try simp only [rdC, nodeC, tokC, setC, zzT, zzO, zzS] at cS); have fS := frees_of kS; have cM := cells_of kM; (try simp only [rdC, nodeC, tokC, setC, zzT, zzO, zzS] at cM); have fM := frees_of kM; have cR := cells_of kR; (try simp only [rdC, nodeC, tokC, setC, zzT, zzO, zzS] at cR); have fR := frees_of kR; have c0 := cells_of k0; (try simp only [rdC, nodeC, tokC, setC, zzT, zzO, zzS] at c0); have f0 := frees_of k0)
                  | ((with_reducible refine stopSt 61 _ _ rfl ?_); unfold Stop; refine wpList_store_blk rfl 61 _ _ rfl _ _ rfl _ (by go_simp; first | done | exact rfl) _ _ _ kS (zzB rfl) (by kernel_rfl) rfl (by simp only [spl, rdC, nodeC, tokC, setC, Value.cells, zzT, zzO, zzS, Array.toList]; exact rfl) ?_; intro wn kn hUn hsn; clear cS fS cR fR c0 f0; replace kR := hUn.heap kR (by omega); replace k0 := hUn.heap k0 (by omega); replace kS := kn; replace hU0 := hU0.then hUn (fun i hi (e : i = _) => by first | exact e | exact absurd hi (by omega) | (subst e; first | assumption | (show _ ≤ _; omega)) | exact .inl e | exact .inr e | exact .inr (.inl e) | exact .inr (.inr e)); replace hz := Nat.le_trans hz (Nat.le_of_eq hsn.symm); clear kn hUn hsn; have cS := cells_of kS; (try simp only [rdC, nodeC, tokC, setC, zzT, zzO, zzS] at cS); have fS := frees_of kS; have cR := cells_of kR; (try simp only [rdC, nodeC, tokC, setC, zzT, zzO, zzS] at cR); have fR := frees_of kR; have c0 := cells_of k0; (try simp only [rdC, nodeC, tokC, setC, zzT, zzO, zzS] at c0); have f0 := frees_of k0)
                  | ((with_reducible refine stopSt 61 _ _ rfl ?_); unfold Stop; refine wpList_store_blk rfl 61 _ _ rfl _ _ rfl _ (by go_simp; first | done | exact rfl) _ _ _ kR (zzB rfl) (by kernel_rfl) rfl (by simp only [spl, rdC, nodeC, tokC, setC, Value.cells, zzT, zzO, zzS, Array.toList]; exact rfl) ?_; intro wn kn hUn hsn; clear cR fR cS fS c0 f0; replace kS := hUn.heap kS (by omega); replace k0 := hUn.heap k0 (by omega); replace kR := kn; replace hU0 := hU0.then hUn (fun i hi (e : i = _) => by first | exact e | exact absurd hi (by omega) | (subst e; first | assumption | (show _ ≤ _; omega)) | exact .inl e | exact .inr e | exact .inr (.inl e) | exact .inr (.inr e)); replace hz := Nat.le_trans hz (Nat.le_of_eq hsn.symm); clear kn hUn hsn; have cR := cells_of kR; (try simp only [rdC, nodeC, tokC, setC, zzT, zzO, zzS] at cR); have fR := frees_of kR; have cS := cells_of kS; (try simp only [rdC, nodeC, tokC, setC, zzT, zzO, zzS] at cS); have fS := frees_of kS; have c0 := cells_of k0; (try simp only [rdC, nodeC, tokC, setC, zzT, zzO, zzS] at c0); have f0 := frees_of k0))
                go_simp
                go_cut [113] (fun t w' => t = .bool (goesB s.data.toList k2) ∧ w' = wn)
                case first =>
                  go_wp2
                  all_goals
                    go_meet
                    exact ⟨congrArg Value.bool (by first | exact (goesB_out (by omega)).symm | exact (goesB_no2 (by omega) (by assumption)).symm | exact (goesB_yes2 (by omega) (by assumption)).symm | exact (goesB_no1 (by omega) (by assumption)).symm | exact (goesB_yes1 (by omega) (by assumption)).symm), rfl⟩
                case rest =>
                  obtain ⟨rfl, rfl⟩ := hcut
                  go_upto_if 113 with fail
                  go_cut [15, 16] (fun kk h w' => ∃ (hi : Int) (k3 : Nat), h = .int .u8 hi ∧ kk = .int .i64 (k3 : Nat) ∧ Hid (highF s.data.toList lo k2 = (hi, k3)) ∧ 0 ≤ hi ∧ hi ≤ 255 ∧ j + 1 ≤ k3 ∧ k3 ≤ 1003 ∧ w' = wc)
                  case first =>
                    cases hb : goesB s.data.toList k2
                    · have hh := Lib.hid (highF_no (lo := lo) hb)
                      clear hb
                      go_wp2
                      go_meet
                      exact ⟨lo, k2, rfl, rfl, hh, hlo0, hlo1, by omega, by omega, rfl⟩
                    · obtain ⟨hh, hh2⟩ := highF_yes (lo := lo) hb
                      rw [HL.out] at hh2
                      obtain ⟨hi, k3, hit2, hh0, hh1, hn1, hn2, hcl⟩ := item_pre s rb (k2 + 1) ((k2 : Int) + 1) (by omega) hs hh2
                      have HH := Lib.hid (hh.trans hit2.out)
                      have HIT2 := Lib.hid hcl
                      clear hcl hb hh hit2
                      go_wp2_with (first | (go_at_call 104; refine (HIT2.out _ (c0 0)).mono ?_; rintro e w' ⟨rfl, rfl⟩))
                      go_meet
                      exact ⟨hi, k3, rfl, rfl, HH, hh0, hh1, by omega, by omega, rfl⟩
                  case rest =>
                    obtain ⟨hi, k3, rfl, rfl, hh, hh0, hh1, hk31, hk32, rfl⟩ := hcut
                    have HE2 := HCI2.out hi k3 hh.out
                    clear hh HCI2 hit HIT
                    go_upto_region 24 with fail
                    go_simp
                    go_cut [9] (fun t w' => t = .bool (fl || decide (hi < lo)) ∧ w' = wc)
                    case first =>
                      cases fl
                      all_goals
                        go_wp2
                        go_meet
                        exact ⟨by simp, rfl⟩
                    case rest =>
                      obtain ⟨rfl, rfl⟩ := hcut
                      generalize (fl || decide (hi < lo)) = fl2 at *
                      clear cM fM kM cS fS cR fR c0 f0
                      go_wp2_with fail
                      go_loopg [17] ((hi + 1 - lo).toNat) (fun gk2 c wr => ∃ n : Nat, c = .int .i64 (lo + n) ∧ n + gk2 = (hi + 1 - lo).toNat ∧ wr.heap[bS]? = some (.cells (setC (set.adds lo n)) 61 (0, 0)) ∧ wr.heap[bR]? = some (.cells (setC .zero) 61 (0, 0)) ∧ wr.heap[rb]? = some (.cells (rdC s st nv) 96 (0, 0)) ∧ Upd (fun _ => False) w wr ∧ w.heap.size ≤ wr.heap.size)
                      case atStart => exact ⟨0, by simp, by omega, kS, kR, k0, hU0, hz⟩
                      case round =>
                        clear kS kR k0 hU0 hz
                        obtain ⟨n, rfl, hn, kS, kR, k0, hU0, hz⟩ := hrel
                        have cS := cells_of kS; (try simp only [rdC, nodeC, tokC, setC, zzT, zzO, zzS] at cS); have fS := frees_of kS; have cR := cells_of kR; (try simp only [rdC, nodeC, tokC, setC, zzT, zzO, zzS] at cR); have fR := frees_of kR; have c0 := cells_of k0; (try simp only [rdC, nodeC, tokC, setC, zzT, zzO, zzS] at c0); have f0 := frees_of k0
                        by_cases hc : lo + (n : Int) ≤ hi
                        · go_wp2_with (first
                          | (go_at_call 105; refine (rWith_set _ _ (by omega) (by omega) _).mono ?_; rintro e w2 ⟨rfl, hb⟩; have hqq := false_upd2 hb; clear cS fS cR fR c0 f0; replace kS := (hqq).heap kS (fun h => h); replace kR := (hqq).heap kR (fun h => h); replace k0 := (hqq).heap k0 (fun h => h); replace hz := Nat.le_trans hz (hqq).size; replace hU0 := hU0.then hqq (fun _ _ h => h.elim); have cS := cells_of kS; (try simp only [rdC, nodeC, tokC, setC, zzT, zzO, zzS] at cS); have fS := frees_of kS; have cR := cells_of kR; (try simp only [rdC, nodeC, tokC, setC, zzT, zzO, zzS] at cR); have fR := frees_of kR; have c0 := cells_of k0; (try simp only [rdC, nodeC, tokC, setC, zzT, zzO, zzS] at c0); have f0 := frees_of k0; clear hb hqq)
                            | ((with_reducible refine stopLd 61 _ rfl ?_); unfold Stop; refine wpList_load_row rfl 61 _ rfl _ rfl 61 _ (0, 0) _ kS Try.underlying61 rfl (by kernel_rfl) ?_)
                            | ((with_reducible refine stopLd 61 _ rfl ?_); unfold Stop; refine wpList_load_row rfl 61 _ rfl _ rfl 61 _ (0, 0) _ kM Try.underlying61 rfl (by kernel_rfl) ?_)
                            | ((with_reducible refine stopSt 61 _ _ rfl ?_); unfold Stop; refine wpList_store_blk rfl 61 _ _ rfl _ _ rfl _ (by go_simp; first | done | exact rfl) _ _ _ kM (zzB rfl) (by kernel_rfl) rfl (by simp only [spl, rdC, nodeC, tokC, setC, Value.cells, zzT, zzO, zzS, Array.toList]; exact rfl) ?_; intro wn kn hUn hsn; clear cM fM cS fS cR fR c0 f0; replace kS := hUn.heap kS (by omega); replace kR := hUn.heap kR (by omega); replace k0 := hUn.heap k0 (by omega); replace kM := kn; replace hU0 := hU0.then hUn (fun i hi (e : i = _) => by first | exact e | exact absurd hi (by omega) | (subst e; first | assumption | (show _ ≤ _; omega)) | exact .inl e | exact .inr e | exact .inr (.inl e) | exact .inr (.inr e)); replace hz := Nat.le_trans hz (Nat.le_of_eq hsn.symm); clear kn hUn hsn; have cM := cells_of kM; (try simp only [rdC, nodeC, tokC, setC, zzT, zzO, zzS] at cM); have fM := frees_of kM; have cS := cells_of kS; (try simp only [rdC, nodeC, tokC, setC, zzT, zzO, zzS] at cS); have fS := frees_of kS; have cR := cells_of kR; (try simp only [rdC, nodeC, tokC, setC, zzT, zzO, zzS] at cR); have fR := frees_of kR; have c0 := cells_of k0; (try simp only [rdC, nodeC, tokC, setC, zzT, zzO, zzS] at c0); have f0 := frees_of k0)
                            | ((with_reducible refine stopSt 61 _ _ rfl ?_); unfold Stop; refine wpList_store_blk rfl 61 _ _ rfl _ _ rfl _ (by go_simp; first | done | exact rfl) _ _ _ kS (zzB rfl) (by kernel_rfl) rfl (by simp only [spl, rdC, nodeC, tokC, setC, Value.cells, zzT, zzO, zzS, Array.toList]; exact rfl) ?_; intro wn kn hUn hsn; clear cS fS cM fM cR fR c0 f0; replace kM := hUn.heap kM (by omega); replace kR := hUn.heap kR (by omega); replace k0 := hUn.heap k0 (by omega); replace kS := kn; replace hU0 := hU0.then hUn (fun i hi (e : i = _) => by first | exact e | exact absurd hi (by omega) | (subst e; first | assumption | (show _ ≤ _; omega)) | exact .inl e | exact .inr e | exact .inr (.inl e) | exact .inr (.inr e)); replace hz := Nat.le_trans hz (Nat.le_of_eq hsn.symm); clear kn hUn hsn; have cS := cells_of kS; (try simp only [rdC, nodeC, tokC, setC, zzT, zzO, zzS] at cS); have fS := frees_of kS; have cM := cells_of kM; (try simp only [rdC, nodeC, tokC, setC, zzT, zzO, zzS] at cM); have fM := frees_of kM; have cR := cells_of kR; (try simp only [rdC, nodeC, tokC, setC, zzT, zzO, zzS] at cR); have fR := frees_of kR; have c0 := cells_of k0; (try simp only [rdC, nodeC, tokC, setC, zzT, zzO, zzS] at c0); have f0 := frees_of k0)
                            | ((with_reducible refine stopSt 61 _ _ rfl ?_); unfold Stop; refine wpList_store_blk rfl 61 _ _ rfl _ _ rfl _ (by go_simp; first | done | exact rfl) _ _ _ kS (zzB rfl) (by kernel_rfl) rfl (by simp only [spl, rdC, nodeC, tokC, setC, Value.cells, zzT, zzO, zzS, Array.toList]; exact rfl) ?_; intro wn kn hUn hsn; clear cS fS cR fR c0 f0; replace kR := hUn.heap kR (by omega); replace k0 := hUn.heap k0 (by omega); replace kS := kn; replace hU0 := hU0.then hUn (fun i hi (e : i = _) => by first | exact e | exact absurd hi (by omega) | (subst e; first | assumption | (show _ ≤ _; omega)) | exact .inl e | exact .inr e | exact .inr (.inl e) | exact .inr (.inr e)); replace hz := Nat.le_trans hz (Nat.le_of_eq hsn.symm); clear kn hUn hsn; have cS := cells_of kS; (try simp only [rdC, nodeC, tokC, setC, zzT, zzO, zzS] at cS); have fS := frees_of kS; have cR := cells_of kR; (try simp only [rdC, nodeC, tokC, setC, zzT, zzO, zzS] at cR); have fR := frees_of kR; have c0 := cells_of k0; (try simp only [rdC, nodeC, tokC, setC, zzT, zzO, zzS] at c0); have f0 := frees_of k0)
                            | ((with_reducible refine stopSt 61 _ _ rfl ?_); unfold Stop; refine wpList_store_blk rfl 61 _ _ rfl _ _ rfl _ (by go_simp; first | done | exact rfl) _ _ _ kR (zzB rfl) (by kernel_rfl) rfl (by simp only [spl, rdC, nodeC, tokC, setC, Value.cells, zzT, zzO, zzS, Array.toList]; exact rfl) ?_; intro wn kn hUn hsn; clear cR fR cS fS c0 f0; replace kS := hUn.heap kS (by omega); replace k0 := hUn.heap k0 (by omega); replace kR := kn; replace hU0 := hU0.then hUn (fun i hi (e : i = _) => by first | exact e | exact absurd hi (by omega) | (subst e; first | assumption | (show _ ≤ _; omega)) | exact .inl e | exact .inr e | exact .inr (.inl e) | exact .inr (.inr e)); replace hz := Nat.le_trans hz (Nat.le_of_eq hsn.symm); clear kn hUn hsn; have cR := cells_of kR; (try simp only [rdC, nodeC, tokC, setC, zzT, zzO, zzS] at cR); have fR := frees_of kR; have cS := cells_of kS; (try simp only [rdC, nodeC, tokC, setC, zzT, zzO, zzS] at cS); have fS := frees_of kS; have c0 := cells_of k0; (try simp only [rdC, nodeC, tokC, setC, zzT, zzO, zzS] at c0); have f0 := frees_of k0))
                          go_roundg (gk - 1)
                          case measure => omega
                          case rel => exact ⟨n + 1, by go_num, by omega, kS, kR, k0, hU0, hz⟩
                        · obtain rfl : n = (hi + 1 - lo).toNat := by omega
                          go_wp2
                          go_roundg g
                          case measure => omega
                          case rel => exact ⟨k3, fl2, false, _, rfl, rfl, rfl, Lib.hid HE2.out.symm, by omega, by omega, kS, kR, k0, hU0, hz⟩
              · have HE2 := Lib.hid (hE.out.symm.trans (coll_name hlen hend hnm.out))
                obtain ⟨hk2, hk3⟩ := hk1 rfl
                clear hE hend hnm
                go_wp2_with (first
                | (go_at_call 102; refine (HNM.out _ (c0 0)).mono ?_; rintro e w2 ⟨rfl, hb⟩; have hqq := false_upd2 hb; clear cS fS cR fR c0 f0; replace kS := (hqq).heap kS (fun h => h); replace kR := (hqq).heap kR (fun h => h); replace k0 := (hqq).heap k0 (fun h => h); replace hz := Nat.le_trans hz (hqq).size; replace hU0 := hU0.then hqq (fun _ _ h => h.elim); have cS := cells_of kS; (try simp only [rdC, nodeC, tokC, setC, zzT, zzO, zzS] at cS); have fS := frees_of kS; have cR := cells_of kR; (try simp only [rdC, nodeC, tokC, setC, zzT, zzO, zzS] at cR); have fR := frees_of kR; have c0 := cells_of k0; (try simp only [rdC, nodeC, tokC, setC, zzT, zzO, zzS] at c0); have f0 := frees_of k0; clear hb hqq)
                | (go_at_call 103; refine (rBoth_set _ _ _).mono ?_; rintro e w2 ⟨rfl, hb⟩; have hqq := false_upd2 hb; clear cM fM cS fS cR fR c0 f0; replace kM := (hqq).heap kM (fun h => h); replace kS := (hqq).heap kS (fun h => h); replace kR := (hqq).heap kR (fun h => h); replace k0 := (hqq).heap k0 (fun h => h); replace hz := Nat.le_trans hz (hqq).size; replace hU0 := hU0.then hqq (fun _ _ h => h.elim); have cM := cells_of kM; (try simp only [rdC, nodeC, tokC, setC, zzT, zzO, zzS] at cM); have fM := frees_of kM; have cS := cells_of kS; (try simp only [rdC, nodeC, tokC, setC, zzT, zzO, zzS] at cS); have fS := frees_of kS; have cR := cells_of kR; (try simp only [rdC, nodeC, tokC, setC, zzT, zzO, zzS] at cR); have fR := frees_of kR; have c0 := cells_of k0; (try simp only [rdC, nodeC, tokC, setC, zzT, zzO, zzS] at c0); have f0 := frees_of k0; clear hb hqq)
                | ((with_reducible refine stopAl 61 rfl ?_); unfold Stop; refine wpList_alloc_blk rfl 61 rfl (.agg #[.int .u64 0, .int .u64 0, .int .u64 0, .int .u64 0]) (by kernel_rfl) #[.int .u64 0, .int .u64 0, .int .u64 0, .int .u64 0] rfl ?_; intro bM wn hbn kn hUn hsn; clear cS fS cR fR c0 f0; have lSM := heap_lt kS; rw [hbn] at lSM; replace kS := hUn.heap kS (fun h => h); have lRM := heap_lt kR; rw [hbn] at lRM; replace kR := hUn.heap kR (fun h => h); have l0M := heap_lt k0; rw [hbn] at l0M; replace k0 := hUn.heap k0 (fun h => h); have gM : w.heap.size ≤ bM := Nat.le_trans hU0.size (Nat.le_of_eq hbn); have kM := kn; replace hU0 := hU0.then hUn (fun _ _ h => h.elim); replace hz : w.heap.size ≤ wn.heap.size := (by omega); clear kn hUn hsn hbn; have cM := cells_of kM; (try simp only [rdC, nodeC, tokC, setC, zzT, zzO, zzS] at cM); have fM := frees_of kM; have cS := cells_of kS; (try simp only [rdC, nodeC, tokC, setC, zzT, zzO, zzS] at cS); have fS := frees_of kS; have cR := cells_of kR; (try simp only [rdC, nodeC, tokC, setC, zzT, zzO, zzS] at cR); have fR := frees_of kR; have c0 := cells_of k0; (try simp only [rdC, nodeC, tokC, setC, zzT, zzO, zzS] at c0); have f0 := frees_of k0)
                  | ((with_reducible refine stopLd 61 _ rfl ?_); unfold Stop; refine wpList_load_row rfl 61 _ rfl _ rfl 61 _ (0, 0) _ kS Try.underlying61 rfl (by kernel_rfl) ?_)
                  | ((with_reducible refine stopLd 61 _ rfl ?_); unfold Stop; refine wpList_load_row rfl 61 _ rfl _ rfl 61 _ (0, 0) _ kM Try.underlying61 rfl (by kernel_rfl) ?_)
                  | ((with_reducible refine stopSt 61 _ _ rfl ?_); unfold Stop; refine wpList_store_blk rfl 61 _ _ rfl _ _ rfl _ (by go_simp; first | done | exact rfl) _ _ _ kM (zzB rfl) (by kernel_rfl) rfl (by simp only [spl, rdC, nodeC, tokC, setC, Value.cells, zzT, zzO, zzS, Array.toList]; exact rfl) ?_; intro wn kn hUn hsn; clear cM fM cS fS cR fR c0 f0; replace kS := hUn.heap kS (by omega); replace kR := hUn.heap kR (by omega); replace k0 := hUn.heap k0 (by omega); replace kM := kn; replace hU0 := hU0.then hUn (fun i hi (e : i = _) => by first | exact e | exact absurd hi (by omega) | (subst e; first | assumption | (show _ ≤ _; omega)) | exact .inl e | exact .inr e | exact .inr (.inl e) | exact .inr (.inr e)); replace hz := Nat.le_trans hz (Nat.le_of_eq hsn.symm); clear kn hUn hsn; have cM := cells_of kM; (try simp only [rdC, nodeC, tokC, setC, zzT, zzO, zzS] at cM); have fM := frees_of kM; have cS := cells_of kS; (try simp only [rdC, nodeC, tokC, setC, zzT, zzO, zzS] at cS); have fS := frees_of kS; have cR := cells_of kR; (try simp only [rdC, nodeC, tokC, setC, zzT, zzO, zzS] at cR); have fR := frees_of kR; have c0 := cells_of k0; (try simp only [rdC, nodeC, tokC, setC, zzT, zzO, zzS] at c0); have f0 := frees_of k0)
                  | ((with_reducible refine stopSt 61 _ _ rfl ?_); unfold Stop; refine wpList_store_blk rfl 61 _ _ rfl _ _ rfl _ (by go_simp; first | done | exact rfl) _ _ _ kS (zzB rfl) (by kernel_rfl) rfl (by simp only [spl, rdC, nodeC, tokC, setC, Value.cells, zzT, zzO, zzS, Array.toList]; exact rfl) ?_; intro wn kn hUn hsn; clear cS fS cM fM cR fR c0 f0; replace kM := hUn.heap kM (by omega); replace kR := hUn.heap kR (by omega); replace k0 := hUn.heap k0 (by omega); replace kS := kn; replace hU0 := hU0.then hUn (fun i hi (e : i = _) => by first | exact e | exact absurd hi (by omega) | (subst e; first | assumption | (show _ ≤ _; omega)) | exact .inl e | exact .inr e | exact .inr (.inl e) | exact .inr (.inr e)); replace hz := Nat.le_trans hz (Nat.le_of_eq hsn.symm); clear kn hUn hsn; have cS := cells_of kS; (try simp only [rdC, nodeC, tokC, setC, zzT, zzO, zzS] at cS); have fS := frees_of kS; have cM := cells_of kM; (try simp only [rdC, nodeC, tokC, setC, zzT, zzO, zzS] at cM); have fM := frees_of kM; have cR := cells_of kR; (try simp only [rdC, nodeC, tokC, setC, zzT, zzO, zzS] at cR); have fR := frees_of kR; have c0 := cells_of k0; (try simp only [rdC, nodeC, tokC, setC, zzT, zzO, zzS] at c0); have f0 := frees_of k0)
                  | ((with_reducible refine stopSt 61 _ _ rfl ?_); unfold Stop; refine wpList_store_blk rfl 61 _ _ rfl _ _ rfl _ (by go_simp; first | done | exact rfl) _ _ _ kS (zzB rfl) (by kernel_rfl) rfl (by simp only [spl, rdC, nodeC, tokC, setC, Value.cells, zzT, zzO, zzS, Array.toList]; exact rfl) ?_; intro wn kn hUn hsn; clear cS fS cR fR c0 f0; replace kR := hUn.heap kR (by omega); replace k0 := hUn.heap k0 (by omega); replace kS := kn; replace hU0 := hU0.then hUn (fun i hi (e : i = _) => by first | exact e | exact absurd hi (by omega) | (subst e; first | assumption | (show _ ≤ _; omega)) | exact .inl e | exact .inr e | exact .inr (.inl e) | exact .inr (.inr e)); replace hz := Nat.le_trans hz (Nat.le_of_eq hsn.symm); clear kn hUn hsn; have cS := cells_of kS; (try simp only [rdC, nodeC, tokC, setC, zzT, zzO, zzS] at cS); have fS := frees_of kS; have cR := cells_of kR; (try simp only [rdC, nodeC, tokC, setC, zzT, zzO, zzS] at cR); have fR := frees_of kR; have c0 := cells_of k0; (try simp only [rdC, nodeC, tokC, setC, zzT, zzO, zzS] at c0); have f0 := frees_of k0)
                  | ((with_reducible refine stopSt 61 _ _ rfl ?_); unfold Stop; refine wpList_store_blk rfl 61 _ _ rfl _ _ rfl _ (by go_simp; first | done | exact rfl) _ _ _ kR (zzB rfl) (by kernel_rfl) rfl (by simp only [spl, rdC, nodeC, tokC, setC, Value.cells, zzT, zzO, zzS, Array.toList]; exact rfl) ?_; intro wn kn hUn hsn; clear cR fR cS fS c0 f0; replace kS := hUn.heap kS (by omega); replace k0 := hUn.heap k0 (by omega); replace kR := kn; replace hU0 := hU0.then hUn (fun i hi (e : i = _) => by first | exact e | exact absurd hi (by omega) | (subst e; first | assumption | (show _ ≤ _; omega)) | exact .inl e | exact .inr e | exact .inr (.inl e) | exact .inr (.inr e)); replace hz := Nat.le_trans hz (Nat.le_of_eq hsn.symm); clear kn hUn hsn; have cR := cells_of kR; (try simp only [rdC, nodeC, tokC, setC, zzT, zzO, zzS] at cR); have fR := frees_of kR; have cS := cells_of kS; (try simp only [rdC, nodeC, tokC, setC, zzT, zzO, zzS] at cS); have fS := frees_of kS; have c0 := cells_of k0; (try simp only [rdC, nodeC, tokC, setC, zzT, zzO, zzS] at c0); have f0 := frees_of k0))
                go_roundg g
                case measure => omega
                case rel => exact ⟨k1, fl, false, set.both x, rfl, rfl, rfl, Lib.hid HE2.out.symm, by omega, by omega, kS, kR, k0, hU0, hz⟩
        · have HTn := Lib.hid (hE.out.symm.trans (coll_out (nt := nt) (f := gk) (set := set) (fl := fl) (fi := fi) (j := j) (by rw [HL.out]; omega)))
          go_wp2_with (first
              | ((with_reducible refine stopLd 61 _ rfl ?_); unfold Stop; refine wpList_load_row rfl 61 _ rfl _ rfl 61 _ (0, 0) _ kS Try.underlying61 rfl (by kernel_rfl) ?_)
              | ((with_reducible refine stopLd 61 _ rfl ?_); unfold Stop; refine wpList_load_row rfl 61 _ rfl _ rfl 61 _ (0, 0) _ kM Try.underlying61 rfl (by kernel_rfl) ?_)
              | ((with_reducible refine stopSt 61 _ _ rfl ?_); unfold Stop; refine wpList_store_blk rfl 61 _ _ rfl _ _ rfl _ (by go_simp; first | done | exact rfl) _ _ _ kM (zzB rfl) (by kernel_rfl) rfl (by simp only [spl, rdC, nodeC, tokC, setC, Value.cells, zzT, zzO, zzS, Array.toList]; exact rfl) ?_; intro wn kn hUn hsn; clear cM fM cS fS cR fR c0 f0; replace kS := hUn.heap kS (by omega); replace kR := hUn.heap kR (by omega); replace k0 := hUn.heap k0 (by omega); replace kM := kn; replace hU0 := hU0.then hUn (fun i hi (e : i = _) => by first | exact e | exact absurd hi (by omega) | (subst e; first | assumption | (show _ ≤ _; omega)) | exact .inl e | exact .inr e | exact .inr (.inl e) | exact .inr (.inr e)); replace hz := Nat.le_trans hz (Nat.le_of_eq hsn.symm); clear kn hUn hsn; have cM := cells_of kM; (try simp only [rdC, nodeC, tokC, setC, zzT, zzO, zzS] at cM); have fM := frees_of kM; have cS := cells_of kS; (try simp only [rdC, nodeC, tokC, setC, zzT, zzO, zzS] at cS); have fS := frees_of kS; have cR := cells_of kR; (try simp only [rdC, nodeC, tokC, setC, zzT, zzO, zzS] at cR); have fR := frees_of kR; have c0 := cells_of k0; (try simp only [rdC, nodeC, tokC, setC, zzT, zzO, zzS] at c0); have f0 := frees_of k0)
              | ((with_reducible refine stopSt 61 _ _ rfl ?_); unfold Stop; refine wpList_store_blk rfl 61 _ _ rfl _ _ rfl _ (by go_simp; first | done | exact rfl) _ _ _ kS (zzB rfl) (by kernel_rfl) rfl (by simp only [spl, rdC, nodeC, tokC, setC, Value.cells, zzT, zzO, zzS, Array.toList]; exact rfl) ?_; intro wn kn hUn hsn; clear cS fS cM fM cR fR c0 f0; replace kM := hUn.heap kM (by omega); replace kR := hUn.heap kR (by omega); replace k0 := hUn.heap k0 (by omega); replace kS := kn; replace hU0 := hU0.then hUn (fun i hi (e : i = _) => by first | exact e | exact absurd hi (by omega) | (subst e; first | assumption | (show _ ≤ _; omega)) | exact .inl e | exact .inr e | exact .inr (.inl e) | exact .inr (.inr e)); replace hz := Nat.le_trans hz (Nat.le_of_eq hsn.symm); clear kn hUn hsn; have cS := cells_of kS; (try simp only [rdC, nodeC, tokC, setC, zzT, zzO, zzS] at cS); have fS := frees_of kS; have cM := cells_of kM; (try simp only [rdC, nodeC, tokC, setC, zzT, zzO, zzS] at cM); have fM := frees_of kM; have cR := cells_of kR; (try simp only [rdC, nodeC, tokC, setC, zzT, zzO, zzS] at cR); have fR := frees_of kR; have c0 := cells_of k0; (try simp only [rdC, nodeC, tokC, setC, zzT, zzO, zzS] at c0); have f0 := frees_of k0)
              | ((with_reducible refine stopSt 61 _ _ rfl ?_); unfold Stop; refine wpList_store_blk rfl 61 _ _ rfl _ _ rfl _ (by go_simp; first | done | exact rfl) _ _ _ kS (zzB rfl) (by kernel_rfl) rfl (by simp only [spl, rdC, nodeC, tokC, setC, Value.cells, zzT, zzO, zzS, Array.toList]; exact rfl) ?_; intro wn kn hUn hsn; clear cS fS cR fR c0 f0; replace kR := hUn.heap kR (by omega); replace k0 := hUn.heap k0 (by omega); replace kS := kn; replace hU0 := hU0.then hUn (fun i hi (e : i = _) => by first | exact e | exact absurd hi (by omega) | (subst e; first | assumption | (show _ ≤ _; omega)) | exact .inl e | exact .inr e | exact .inr (.inl e) | exact .inr (.inr e)); replace hz := Nat.le_trans hz (Nat.le_of_eq hsn.symm); clear kn hUn hsn; have cS := cells_of kS; (try simp only [rdC, nodeC, tokC, setC, zzT, zzO, zzS] at cS); have fS := frees_of kS; have cR := cells_of kR; (try simp only [rdC, nodeC, tokC, setC, zzT, zzO, zzS] at cR); have fR := frees_of kR; have c0 := cells_of k0; (try simp only [rdC, nodeC, tokC, setC, zzT, zzO, zzS] at c0); have f0 := frees_of k0)
              | ((with_reducible refine stopSt 61 _ _ rfl ?_); unfold Stop; refine wpList_store_blk rfl 61 _ _ rfl _ _ rfl _ (by go_simp; first | done | exact rfl) _ _ _ kR (zzB rfl) (by kernel_rfl) rfl (by simp only [spl, rdC, nodeC, tokC, setC, Value.cells, zzT, zzO, zzS, Array.toList]; exact rfl) ?_; intro wn kn hUn hsn; clear cR fR cS fS c0 f0; replace kS := hUn.heap kS (by omega); replace k0 := hUn.heap k0 (by omega); replace kR := kn; replace hU0 := hU0.then hUn (fun i hi (e : i = _) => by first | exact e | exact absurd hi (by omega) | (subst e; first | assumption | (show _ ≤ _; omega)) | exact .inl e | exact .inr e | exact .inr (.inl e) | exact .inr (.inr e)); replace hz := Nat.le_trans hz (Nat.le_of_eq hsn.symm); clear kn hUn hsn; have cR := cells_of kR; (try simp only [rdC, nodeC, tokC, setC, zzT, zzO, zzS] at cR); have fR := frees_of kR; have cS := cells_of kS; (try simp only [rdC, nodeC, tokC, setC, zzT, zzO, zzS] at cS); have fS := frees_of kS; have c0 := cells_of k0; (try simp only [rdC, nodeC, tokC, setC, zzT, zzO, zzS] at c0); have f0 := frees_of k0))
          exact bodyPost_ret (v := .tuple #[.agg _, .int .i64 0]) (results_blk_tmp Try.results89 _ _ bR 61 _ (0, 0) _ rfl kR Try.underlying61 rfl (by kernel_rfl)) rfl ⟨by rw [coll_none hnt.out hj0.out HTL.out HTn.out]; rfl, by rw [coll_none hnt.out hj0.out HTL.out HTn.out]; exact HR.out.upd hU0 (fun h => h) (fun _ _ h => h) (fun _ _ h => h), hU0.mono (fun _ _ h => h.elim)⟩
end Go.Proofs.Ytigbfgmgdfnhcaa
