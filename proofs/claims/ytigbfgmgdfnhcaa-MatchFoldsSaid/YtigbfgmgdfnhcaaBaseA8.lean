/- Lemmas that the law's proof stands on, part 8: PatK. No condition. -/
import Derived.Test.YtigbfgmgdfnhcaaBaseA0
import Derived.Deep.DeepCutAuto
import Derived.Test.YtigbfgmgdfnhcaaBaseA7
set_option linter.all false
set_option linter.unusedVariables false
set_option linter.unusedSimpArgs false
namespace Go.Proofs.Ytigbfgmgdfnhcaa
open Go.RowKit
/-- A byte at a place. -/
def atB (l : List UInt8) (i : Nat) (c : Int) : Bool := decide (i < l.length) && bl l i == c
theorem atB_in {s : ByteArray} {i : Nat} (h : i < s.size) (c : Int) : atB s.data.toList i c = ((s[i].toNat : Int) == c) := by
  have hl : s.data.toList.length = s.size := by simp
  rw [atB, ← bl_at h, hl, decide_eq_true h, Bool.true_and]
theorem atB_out {s : ByteArray} {i : Nat} (h : ¬ i < s.size) (c : Int) : atB s.data.toList i c = false := by
  have hl : s.data.toList.length = s.size := by simp
  rw [atB, hl, decide_eq_false h, Bool.false_and]
theorem atB_iff {l : List UInt8} {i : Nat} {c : Int} : atB l i c = true ↔ i < l.length ∧ bl l i = c := by simp [atB]
def BracesV (q : Option (NodeD × Nat)) (e : Ending) : Prop := match q with
  | none => ∃ n : NodeD, e = .returned (.tuple #[.agg (nodeC n (.slice none 0 0)).toArray, .int .i64 0, .bool false])
  | some (n, k) => e = .returned (.tuple #[.agg (nodeC n (.slice none 0 0)).toArray, .int .i64 (k : Nat), .bool true])
theorem bracesV_none {q : Option (NodeD × Nat)} {e : Ending} (h : q = none) (lz : Bool) (mn mx : Int) (he : e = .returned (.tuple #[.agg #[.int .u8 7, .int .u8 0, .int .u64 0, .int .u64 0, .int .u64 0, .int .u64 0, .int .i64 mn, .int .i64 mx, .bool lz, .int .i64 0, .slice none 0 0], .int .i64 0, .bool false])) : BracesV q e := by
  subst h he
  exact ⟨{ op := 7, min := mn, max := mx, lzy := lz }, rfl⟩
theorem bracesV_some {q : Option (NodeD × Nat)} {e : Ending} {lz : Bool} {mn mx : Int} {k : Nat} (h : q = some ({ op := 7, min := mn, max := mx, lzy := lz }, k)) (he : e = .returned (.tuple #[.agg #[.int .u8 7, .int .u8 0, .int .u64 0, .int .u64 0, .int .u64 0, .int .u64 0, .int .i64 mn, .int .i64 mx, .bool lz, .int .i64 0, .slice none 0 0], .int .i64 (k : Nat), .bool true])) : BracesV q e := by
  subst h he
  rfl
theorem number_pre (s : ByteArray) (rb j : Nat) (n : Int) (hn : n = (j : Nat)) (hs : s.size ≤ 1000) (h1 : j ≤ 1001) : ∃ (lo : Int) (k : Nat) (is : Bool), Hid (numberF s.data.toList j = (lo, k, is)) ∧ j ≤ k ∧ k ≤ j + 4 ∧ (is = true → j < k) ∧
    ∀ w : World, w.cell? ⟨rb, 0, none⟩ = some (.string s) → Calls Try.prog 108 #[.pointer (some ⟨rb, 0, none⟩), .int .i64 n] w fun e w' => e = .returned (.tuple #[.int .i64 lo, .int .i64 (k : Nat), .bool is]) ∧ w = w' := by
  subst hn
  have hb := numL_bd s.data.toList 4 0 j
  refine ⟨_, _, _, Lib.hid rfl, ?_, ?_, ?_, fun w hc => number_any s rb j w hs h1 hc⟩
  · first | omega | (simp only []; omega)
  · first | omega | (simp only []; omega)
  · simp only [Bool.and_eq_true, decide_eq_true_eq]; omega
/-- Behind the least bound. -/
def bracesC (l : List UInt8) (lz : Bool) (lo mx : Int) (k : Nat) : Option (NodeD × Nat) :=
  if k < l.length ∧ bl l k = 44 then
    if k + 1 < (numberF l (k + 1)).2.1 ∧ (numberF l (k + 1)).2.2 = false then none
    else bracesB l lz lo (if (numberF l (k + 1)).2.2 = true then (numberF l (k + 1)).1 else -1) (numberF l (k + 1)).2.1
  else bracesB l lz lo mx k
theorem bracesA_C {l : List UInt8} {lz : Bool} {j k : Nat} {lo : Int} {is : Bool} (h : numberF l j = (lo, k, is)) (hn : ¬ (j < k ∧ is = false)) : bracesA l lz j = bracesC l lz lo (if is = true then lo else -1) k := by
  unfold bracesA bracesC
  simp only [h]
  rw [if_neg hn]
theorem bracesA_none {l : List UInt8} {lz : Bool} {j k : Nat} {lo : Int} {is : Bool} (h : numberF l j = (lo, k, is)) (hn : j < k ∧ is = false) : bracesA l lz j = none := by
  unfold bracesA
  simp only [h]
  rw [if_pos hn]
theorem bracesC_B {l : List UInt8} {lz : Bool} {j k : Nat} {lo mx hi : Int} {is : Bool} (hc : atB l j 44 = true) (h : numberF l (j + 1) = (hi, k, is)) (hn : ¬ (j + 1 < k ∧ is = false)) : bracesC l lz lo mx j = bracesB l lz lo (if is = true then hi else -1) k := by
  unfold bracesC
  rw [if_pos (atB_iff.1 hc)]
  simp only [h]
  rw [if_neg hn]
theorem bracesC_none {l : List UInt8} {lz : Bool} {j k : Nat} {lo mx hi : Int} {is : Bool} (hc : atB l j 44 = true) (h : numberF l (j + 1) = (hi, k, is)) (hn : j + 1 < k ∧ is = false) : bracesC l lz lo mx j = none := by
  unfold bracesC
  rw [if_pos (atB_iff.1 hc)]
  simp only [h]
  rw [if_pos hn]
theorem bracesC_no {l : List UInt8} {lz : Bool} {j : Nat} {lo mx : Int} (hc : atB l j 44 = false) : bracesC l lz lo mx j = bracesB l lz lo mx j := by
  unfold bracesC
  rw [if_neg (fun h => by rw [atB_iff.2 h] at hc; cases hc)]
/-- At the closing brace. -/
def bracesE (l : List UInt8) (lz : Bool) (low mx : Int) (j : Nat) : Option (NodeD × Nat) :=
  if l.length ≤ j ∨ bl l j ≠ 125 ∨ 60 < low ∨ 60 < mx ∨ (0 ≤ mx ∧ mx < low) then none else some ({ op := 7, min := low, max := mx, lzy := lz }, j + 1)
theorem bracesB_yes {l : List UInt8} {lz : Bool} {j : Nat} {lo mx : Int} (hc : atB l j 92 = true) : bracesB l lz lo mx j = bracesE l lz lo mx (j + 1) := by
  unfold bracesB bracesE
  simp only [if_pos (atB_iff.1 hc)]
theorem bracesB_no {l : List UInt8} {lz : Bool} {j : Nat} {lo mx : Int} (hc : atB l j 92 = false) : bracesB l lz lo mx j = bracesE l lz lo mx j := by
  unfold bracesB bracesE
  have hn : ¬ (j < l.length ∧ bl l j = 92) := fun h => by rw [atB_iff.2 h] at hc; cases hc
  simp only [if_neg hn]
theorem bracesE_none {l : List UInt8} {lz : Bool} {j : Nat} {lo mx : Int} (h : l.length ≤ j ∨ bl l j ≠ 125 ∨ 60 < lo ∨ 60 < mx ∨ (0 ≤ mx ∧ mx < lo)) : bracesE l lz lo mx j = none := by
  unfold bracesE; rw [if_pos h]
theorem bracesE_some {l : List UInt8} {lz : Bool} {j : Nat} {lo mx : Int} (h : ¬ (l.length ≤ j ∨ bl l j ≠ 125 ∨ 60 < lo ∨ 60 < mx ∨ (0 ≤ mx ∧ mx < lo))) : bracesE l lz lo mx j = some ({ op := 7, min := lo, max := mx, lzy := lz }, j + 1) := by
  unfold bracesE; rw [if_neg h]
structure BrcW (w : World) (rb bR bN : Nat) (R : Array Value) (mn mx : Int) (lz : Bool) (w' : World) : Prop where
  k0 : w'.heap[rb]? = some (.cells R 96 (0, 0))
  kR : w'.heap[bR]? = some (.cells #[.int .u8 0, .int .u8 0, .int .u64 0, .int .u64 0, .int .u64 0, .int .u64 0, .int .i64 0, .int .i64 0, .bool false, .int .i64 0, .slice none 0 0] 113 (0, 0))
  kN : w'.heap[bN]? = some (.cells #[.int .u8 7, .int .u8 0, .int .u64 0, .int .u64 0, .int .u64 0, .int .u64 0, .int .i64 mn, .int .i64 mx, .bool lz, .int .i64 0, .slice none 0 0] 113 (0, 0))
  hU0 : Upd (fun _ => False) w w'
  hz : w.heap.size ≤ w'.heap.size
set_option maxRecDepth 100000 in
set_option maxHeartbeats 4000000 in
theorem braces_any (s : ByteArray) (rb i : Nat) (w : World) (hs : s.size ≤ 1000) (hi : i ≤ 1000) (R : Array Value) (hR : R[0]? = some (.string s)) (h0 : w.heap[rb]? = some (.cells R 96 (0, 0))) :
    Calls Try.prog 106 #[.pointer (some ⟨rb, 0, none⟩), .int .i64 i] w fun e w' => BracesV (bracesF s.data.toList i) e ∧ Upd (fun _ => False) w w' := by
  have hU0 := Upd.refl (fun _ => False) w
  have hz : w.heap.size ≤ w.heap.size := Nat.le_refl _
  have hl : s.data.toList.length = s.size := by simp
  have HL := Lib.hid hl
  have k0 := h0
  have c0 : ∀ i, _ = R[i]? := cells_of k0
  have f0 := frees_of k0
  clear hl h0
  go_enter Try.func106, Try.ntmps106
  go_upto_region 2 with (first
    | ((with_reducible refine stopAl 113 rfl ?_); unfold Stop; refine wpList_alloc_blk rfl 113 rfl (.agg #[.int .u8 0, .int .u8 0, .int .u64 0, .int .u64 0, .int .u64 0, .int .u64 0, .int .i64 0, .int .i64 0, .bool false, .int .i64 0, .slice none 0 0]) (by kernel_rfl) #[.int .u8 0, .int .u8 0, .int .u64 0, .int .u64 0, .int .u64 0, .int .u64 0, .int .i64 0, .int .i64 0, .bool false, .int .i64 0, .slice none 0 0] rfl ?_; intro bN wn hbn kn hUn hsn; clear cR fR c0 f0; have lRN := heap_lt kR; rw [hbn] at lRN; replace kR := hUn.heap kR (fun h => h); have l0N := heap_lt k0; rw [hbn] at l0N; replace k0 := hUn.heap k0 (fun h => h); have gN : w.heap.size ≤ bN := Nat.le_trans hU0.size (Nat.le_of_eq hbn); have kN := kn; replace hU0 := hU0.then hUn (fun _ _ h => h.elim); replace hz : w.heap.size ≤ wn.heap.size := (by omega); clear kn hUn hsn hbn; have cN := cells_of kN; (try simp only [rdC, nodeC, tokC, setC, zzT, zzO, zzS] at cN); have fN := frees_of kN; have cR := cells_of kR; (try simp only [rdC, nodeC, tokC, setC, zzT, zzO, zzS] at cR); have fR := frees_of kR; have c0 := cells_of k0; (try simp only [rdC, nodeC, tokC, setC, zzT, zzO, zzS] at c0); have f0 := frees_of k0)
    | ((with_reducible refine stopAl 113 rfl ?_); unfold Stop; refine wpList_alloc_blk rfl 113 rfl (.agg #[.int .u8 0, .int .u8 0, .int .u64 0, .int .u64 0, .int .u64 0, .int .u64 0, .int .i64 0, .int .i64 0, .bool false, .int .i64 0, .slice none 0 0]) (by kernel_rfl) #[.int .u8 0, .int .u8 0, .int .u64 0, .int .u64 0, .int .u64 0, .int .u64 0, .int .i64 0, .int .i64 0, .bool false, .int .i64 0, .slice none 0 0] rfl ?_; intro bR wn hbn kn hUn hsn; clear c0 f0; have l0R := heap_lt k0; rw [hbn] at l0R; replace k0 := hUn.heap k0 (fun h => h); have gR : w.heap.size ≤ bR := Nat.le_trans hU0.size (Nat.le_of_eq hbn); have kR := kn; replace hU0 := hU0.then hUn (fun _ _ h => h.elim); replace hz : w.heap.size ≤ wn.heap.size := (by omega); clear kn hUn hsn hbn; have cR := cells_of kR; (try simp only [rdC, nodeC, tokC, setC, zzT, zzO, zzS] at cR); have fR := frees_of kR; have c0 := cells_of k0; (try simp only [rdC, nodeC, tokC, setC, zzT, zzO, zzS] at c0); have f0 := frees_of k0)
    | ((with_reducible refine stopSt 113 _ _ rfl ?_); unfold Stop; refine wpList_store_blk rfl 113 _ _ rfl _ _ rfl _ (by go_simp; first | done | exact rfl) _ _ _ kN (zzB rfl) (by kernel_rfl) rfl (by simp only [spl, rdC, nodeC, tokC, setC, Value.cells, zzT, zzO, zzS, Array.toList]; exact rfl) ?_; intro wn kn hUn hsn; clear cN fN cR fR c0 f0; replace kR := hUn.heap kR (by omega); replace k0 := hUn.heap k0 (by omega); replace kN := kn; replace hU0 := hU0.then hUn (fun i hi (e : i = _) => by first | exact e | exact absurd hi (by omega) | (subst e; first | assumption | (show _ ≤ _; omega)) | exact .inl e | exact .inr e | exact .inr (.inl e) | exact .inr (.inr e)); replace hz := Nat.le_trans hz (Nat.le_of_eq hsn.symm); clear kn hUn hsn; have cN := cells_of kN; (try simp only [rdC, nodeC, tokC, setC, zzT, zzO, zzS] at cN); have fN := frees_of kN; have cR := cells_of kR; (try simp only [rdC, nodeC, tokC, setC, zzT, zzO, zzS] at cR); have fR := frees_of kR; have c0 := cells_of k0; (try simp only [rdC, nodeC, tokC, setC, zzT, zzO, zzS] at c0); have f0 := frees_of k0))
  go_simp
  go_cut [30] (fun t w' => t = .bool (atB s.data.toList i 45) ∧ w' = wn)
  case first =>
    go_wp2
    all_goals
      go_meet
      exact ⟨congrArg Value.bool (by first | exact (atB_in (by assumption) 45).symm | exact (atB_out (by assumption) 45).symm), rfl⟩
  case rest =>
    obtain ⟨rfl, rfl⟩ := hcut
    go_upto_if 30 with fail
    go_cut [1] (fun at_ w' => ∃ (lz : Bool) (j : Nat), at_ = .int .i64 (j : Nat) ∧ Hid (bracesF s.data.toList i = bracesA s.data.toList lz j) ∧ j ≤ 1001 ∧ BrcW w rb bR bN R 0 (-1) lz w')
    case first =>
      cases hb : atB s.data.toList i 45
      · have hF : Hid (bracesF s.data.toList i = bracesA s.data.toList false i) := Lib.hid (by unfold bracesF; rw [if_neg (fun h => by rw [atB_iff.2 h] at hb; cases hb)])
        clear hb
        go_wp2
        go_meet
        exact ⟨false, i, rfl, hF, by omega, k0, kR, kN, hU0, hz⟩
      · have hF : Hid (bracesF s.data.toList i = bracesA s.data.toList true (i + 1)) := Lib.hid (by unfold bracesF; rw [if_pos (atB_iff.1 hb)])
        clear hb
        go_wp2_with (first
          | ((with_reducible refine stopSt 4 _ _ rfl ?_); unfold Stop; refine wpList_store_blk rfl 4 _ _ rfl _ _ rfl _ (by go_simp; first | done | exact rfl) _ _ _ kN (zzB rfl) (by kernel_rfl) rfl (by simp only [spl, rdC, nodeC, tokC, setC, Value.cells, zzT, zzO, zzS, Array.toList]; exact rfl) ?_; intro wn kn hUn hsn; clear cN fN cR fR c0 f0; replace kR := hUn.heap kR (by omega); replace k0 := hUn.heap k0 (by omega); replace kN := kn; replace hU0 := hU0.then hUn (fun i hi (e : i = _) => by first | exact e | exact absurd hi (by omega) | (subst e; first | assumption | (show _ ≤ _; omega)) | exact .inl e | exact .inr e | exact .inr (.inl e) | exact .inr (.inr e)); replace hz := Nat.le_trans hz (Nat.le_of_eq hsn.symm); clear kn hUn hsn; have cN := cells_of kN; (try simp only [rdC, nodeC, tokC, setC, zzT, zzO, zzS] at cN); have fN := frees_of kN; have cR := cells_of kR; (try simp only [rdC, nodeC, tokC, setC, zzT, zzO, zzS] at cR); have fR := frees_of kR; have c0 := cells_of k0; (try simp only [rdC, nodeC, tokC, setC, zzT, zzO, zzS] at c0); have f0 := frees_of k0))
        go_meet
        exact ⟨true, i + 1, rfl, hF, by omega, k0, kR, kN, hU0, hz⟩
    case rest =>
      clear k0 kR kN hU0 hz c0 cR cN f0 fR fN
      obtain ⟨lz, j, rfl, hF, hj, ⟨k0, kR, kN, hU0, hz⟩⟩ := hcut
      have cN := cells_of kN; (try simp only [rdC, nodeC, tokC, setC, zzT, zzO, zzS] at cN); have fN := frees_of kN; have cR := cells_of kR; (try simp only [rdC, nodeC, tokC, setC, zzT, zzO, zzS] at cR); have fR := frees_of kR; have c0 := cells_of k0; (try simp only [rdC, nodeC, tokC, setC, zzT, zzO, zzS] at c0); have f0 := frees_of k0
      obtain ⟨lo, k, is, hq, hk1, hk2, hk3, hcl⟩ := number_pre s rb j _ rfl hs hj
      have HCL := Lib.hid hcl
      clear hcl
      by_cases hn : j < k ∧ is = false
      · have HE := Lib.hid (bracesA_none (lz := lz) hq.out hn)
        obtain ⟨hn1, rfl⟩ := hn
        clear hk3
        go_wp2_with (first
          | (go_at_call 108; refine (HCL.out _ (c0 0 |>.trans hR)).mono ?_; rintro e w' ⟨rfl, rfl⟩)
          | ((with_reducible refine stopLd 113 _ rfl ?_); unfold Stop; refine wpList_load_row rfl 113 _ rfl _ rfl 113 _ (0, 0) _ kN Try.underlying113 rfl (by kernel_rfl) ?_)
          | ((with_reducible refine stopSt 113 _ _ rfl ?_); unfold Stop; refine wpList_store_blk rfl 113 _ _ rfl _ _ rfl _ (by go_simp; first | done | exact rfl) _ _ _ kR (zzB rfl) (by kernel_rfl) rfl (by simp only [spl, rdC, nodeC, tokC, setC, Value.cells, zzT, zzO, zzS, Array.toList]; exact rfl) ?_; intro wn kn hUn hsn; clear cR fR cN fN c0 f0; replace kN := hUn.heap kN (by omega); replace k0 := hUn.heap k0 (by omega); replace kR := kn; replace hU0 := hU0.then hUn (fun i hi (e : i = _) => by first | exact e | exact absurd hi (by omega) | (subst e; first | assumption | (show _ ≤ _; omega)) | exact .inl e | exact .inr e | exact .inr (.inl e) | exact .inr (.inr e)); replace hz := Nat.le_trans hz (Nat.le_of_eq hsn.symm); clear kn hUn hsn; have cR := cells_of kR; (try simp only [rdC, nodeC, tokC, setC, zzT, zzO, zzS] at cR); have fR := frees_of kR; have cN := cells_of kN; (try simp only [rdC, nodeC, tokC, setC, zzT, zzO, zzS] at cN); have fN := frees_of kN; have c0 := cells_of k0; (try simp only [rdC, nodeC, tokC, setC, zzT, zzO, zzS] at c0); have f0 := frees_of k0))
        exact bodyPost_ret (v := .tuple #[.agg _, .int .i64 0, .bool false]) (results_blk_tmp2 Try.results106 _ _ bR 113 _ (0, 0) _ rfl kR Try.underlying113 rfl (by kernel_rfl)) rfl ⟨bracesV_none (hF.out.trans HE.out) lz 0 (-1) rfl, hU0⟩
      · have HE := Lib.hid (bracesA_C (lz := lz) hq.out hn)
        have hk : (is = true ∧ j < k) ∨ (is = false ∧ k = j) := by
          cases is
          · right; exact ⟨rfl, by have : ¬ j < k := fun h => hn ⟨h, rfl⟩; omega⟩
          · left; exact ⟨rfl, hk3 rfl⟩
        clear hk3 hn
        go_upto_region 6 with (first
          | (go_at_call 108; refine (HCL.out _ (c0 0 |>.trans hR)).mono ?_; rintro e w' ⟨rfl, rfl⟩)
          | ((with_reducible refine stopLd 113 _ rfl ?_); unfold Stop; refine wpList_load_row rfl 113 _ rfl _ rfl 113 _ (0, 0) _ kN Try.underlying113 rfl (by kernel_rfl) ?_)
          | ((with_reducible refine stopSt 113 _ _ rfl ?_); unfold Stop; refine wpList_store_blk rfl 113 _ _ rfl _ _ rfl _ (by go_simp; first | done | exact rfl) _ _ _ kR (zzB rfl) (by kernel_rfl) rfl (by simp only [spl, rdC, nodeC, tokC, setC, Value.cells, zzT, zzO, zzS, Array.toList]; exact rfl) ?_; intro wn kn hUn hsn; clear cR fR cN fN c0 f0; replace kN := hUn.heap kN (by omega); replace k0 := hUn.heap k0 (by omega); replace kR := kn; replace hU0 := hU0.then hUn (fun i hi (e : i = _) => by first | exact e | exact absurd hi (by omega) | (subst e; first | assumption | (show _ ≤ _; omega)) | exact .inl e | exact .inr e | exact .inr (.inl e) | exact .inr (.inr e)); replace hz := Nat.le_trans hz (Nat.le_of_eq hsn.symm); clear kn hUn hsn; have cR := cells_of kR; (try simp only [rdC, nodeC, tokC, setC, zzT, zzO, zzS] at cR); have fR := frees_of kR; have cN := cells_of kN; (try simp only [rdC, nodeC, tokC, setC, zzT, zzO, zzS] at cN); have fN := frees_of kN; have c0 := cells_of k0; (try simp only [rdC, nodeC, tokC, setC, zzT, zzO, zzS] at c0); have f0 := frees_of k0)
          | ((with_reducible refine stopSt 3 _ _ rfl ?_); unfold Stop; refine wpList_store_blk rfl 3 _ _ rfl _ _ rfl _ (by go_simp; first | done | exact rfl) _ _ _ kN (zzB rfl) (by kernel_rfl) rfl (by simp only [spl, rdC, nodeC, tokC, setC, Value.cells, zzT, zzO, zzS, Array.toList]; exact rfl) ?_; intro wn kn hUn hsn; clear cN fN cR fR c0 f0; replace kR := hUn.heap kR (by omega); replace k0 := hUn.heap k0 (by omega); replace kN := kn; replace hU0 := hU0.then hUn (fun i hi (e : i = _) => by first | exact e | exact absurd hi (by omega) | (subst e; first | assumption | (show _ ≤ _; omega)) | exact .inl e | exact .inr e | exact .inr (.inl e) | exact .inr (.inr e)); replace hz := Nat.le_trans hz (Nat.le_of_eq hsn.symm); clear kn hUn hsn; have cN := cells_of kN; (try simp only [rdC, nodeC, tokC, setC, zzT, zzO, zzS] at cN); have fN := frees_of kN; have cR := cells_of kR; (try simp only [rdC, nodeC, tokC, setC, zzT, zzO, zzS] at cR); have fR := frees_of kR; have c0 := cells_of k0; (try simp only [rdC, nodeC, tokC, setC, zzT, zzO, zzS] at c0); have f0 := frees_of k0))
        go_simp
        go_cut [47] (fun t w' => t = .bool false ∧ w' = wc)
        case first =>
          rcases hk with ⟨rfl, hk⟩ | ⟨rfl, rfl⟩
          all_goals
            go_wp2
            go_meet
            exact ⟨rfl, rfl⟩
        case rest =>
          obtain ⟨rfl, rfl⟩ := hcut
          go_upto_if 51 with (first
            | (go_at_call 108; refine (HCL.out _ (c0 0 |>.trans hR)).mono ?_; rintro e w' ⟨rfl, rfl⟩)
            | ((with_reducible refine stopLd 113 _ rfl ?_); unfold Stop; refine wpList_load_row rfl 113 _ rfl _ rfl 113 _ (0, 0) _ kN Try.underlying113 rfl (by kernel_rfl) ?_)
            | ((with_reducible refine stopSt 113 _ _ rfl ?_); unfold Stop; refine wpList_store_blk rfl 113 _ _ rfl _ _ rfl _ (by go_simp; first | done | exact rfl) _ _ _ kR (zzB rfl) (by kernel_rfl) rfl (by simp only [spl, rdC, nodeC, tokC, setC, Value.cells, zzT, zzO, zzS, Array.toList]; exact rfl) ?_; intro wn kn hUn hsn; clear cR fR cN fN c0 f0; replace kN := hUn.heap kN (by omega); replace k0 := hUn.heap k0 (by omega); replace kR := kn; replace hU0 := hU0.then hUn (fun i hi (e : i = _) => by first | exact e | exact absurd hi (by omega) | (subst e; first | assumption | (show _ ≤ _; omega)) | exact .inl e | exact .inr e | exact .inr (.inl e) | exact .inr (.inr e)); replace hz := Nat.le_trans hz (Nat.le_of_eq hsn.symm); clear kn hUn hsn; have cR := cells_of kR; (try simp only [rdC, nodeC, tokC, setC, zzT, zzO, zzS] at cR); have fR := frees_of kR; have cN := cells_of kN; (try simp only [rdC, nodeC, tokC, setC, zzT, zzO, zzS] at cN); have fN := frees_of kN; have c0 := cells_of k0; (try simp only [rdC, nodeC, tokC, setC, zzT, zzO, zzS] at c0); have f0 := frees_of k0)
            | ((with_reducible refine stopSt 3 _ _ rfl ?_); unfold Stop; refine wpList_store_blk rfl 3 _ _ rfl _ _ rfl _ (by go_simp; first | done | exact rfl) _ _ _ kN (zzB rfl) (by kernel_rfl) rfl (by simp only [spl, rdC, nodeC, tokC, setC, Value.cells, zzT, zzO, zzS, Array.toList]; exact rfl) ?_; intro wn kn hUn hsn; clear cN fN cR fR c0 f0; replace kR := hUn.heap kR (by omega); replace k0 := hUn.heap k0 (by omega); replace kN := kn; replace hU0 := hU0.then hUn (fun i hi (e : i = _) => by first | exact e | exact absurd hi (by omega) | (subst e; first | assumption | (show _ ≤ _; omega)) | exact .inl e | exact .inr e | exact .inr (.inl e) | exact .inr (.inr e)); replace hz := Nat.le_trans hz (Nat.le_of_eq hsn.symm); clear kn hUn hsn; have cN := cells_of kN; (try simp only [rdC, nodeC, tokC, setC, zzT, zzO, zzS] at cN); have fN := frees_of kN; have cR := cells_of kR; (try simp only [rdC, nodeC, tokC, setC, zzT, zzO, zzS] at cR); have fR := frees_of kR; have c0 := cells_of k0; (try simp only [rdC, nodeC, tokC, setC, zzT, zzO, zzS] at c0); have f0 := frees_of k0))
          go_cut [52] (fun _ w' => BrcW w rb bR bN R lo (if is = true then lo else -1) lz w')
          case first =>
            cases is
            all_goals
              go_wp2_with (first
                | (go_at_call 108; refine (HCL.out _ (c0 0 |>.trans hR)).mono ?_; rintro e w' ⟨rfl, rfl⟩)
                | ((with_reducible refine stopLd 113 _ rfl ?_); unfold Stop; refine wpList_load_row rfl 113 _ rfl _ rfl 113 _ (0, 0) _ kN Try.underlying113 rfl (by kernel_rfl) ?_)
                | ((with_reducible refine stopSt 113 _ _ rfl ?_); unfold Stop; refine wpList_store_blk rfl 113 _ _ rfl _ _ rfl _ (by go_simp; first | done | exact rfl) _ _ _ kR (zzB rfl) (by kernel_rfl) rfl (by simp only [spl, rdC, nodeC, tokC, setC, Value.cells, zzT, zzO, zzS, Array.toList]; exact rfl) ?_; intro wn kn hUn hsn; clear cR fR cN fN c0 f0; replace kN := hUn.heap kN (by omega); replace k0 := hUn.heap k0 (by omega); replace kR := kn; replace hU0 := hU0.then hUn (fun i hi (e : i = _) => by first | exact e | exact absurd hi (by omega) | (subst e; first | assumption | (show _ ≤ _; omega)) | exact .inl e | exact .inr e | exact .inr (.inl e) | exact .inr (.inr e)); replace hz := Nat.le_trans hz (Nat.le_of_eq hsn.symm); clear kn hUn hsn; have cR := cells_of kR; (try simp only [rdC, nodeC, tokC, setC, zzT, zzO, zzS] at cR); have fR := frees_of kR; have cN := cells_of kN; (try simp only [rdC, nodeC, tokC, setC, zzT, zzO, zzS] at cN); have fN := frees_of kN; have c0 := cells_of k0; (try simp only [rdC, nodeC, tokC, setC, zzT, zzO, zzS] at c0); have f0 := frees_of k0)
                | ((with_reducible refine stopSt 3 _ _ rfl ?_); unfold Stop; refine wpList_store_blk rfl 3 _ _ rfl _ _ rfl _ (by go_simp; first | done | exact rfl) _ _ _ kN (zzB rfl) (by kernel_rfl) rfl (by simp only [spl, rdC, nodeC, tokC, setC, Value.cells, zzT, zzO, zzS, Array.toList]; exact rfl) ?_; intro wn kn hUn hsn; clear cN fN cR fR c0 f0; replace kR := hUn.heap kR (by omega); replace k0 := hUn.heap k0 (by omega); replace kN := kn; replace hU0 := hU0.then hUn (fun i hi (e : i = _) => by first | exact e | exact absurd hi (by omega) | (subst e; first | assumption | (show _ ≤ _; omega)) | exact .inl e | exact .inr e | exact .inr (.inl e) | exact .inr (.inr e)); replace hz := Nat.le_trans hz (Nat.le_of_eq hsn.symm); clear kn hUn hsn; have cN := cells_of kN; (try simp only [rdC, nodeC, tokC, setC, zzT, zzO, zzS] at cN); have fN := frees_of kN; have cR := cells_of kR; (try simp only [rdC, nodeC, tokC, setC, zzT, zzO, zzS] at cR); have fR := frees_of kR; have c0 := cells_of k0; (try simp only [rdC, nodeC, tokC, setC, zzT, zzO, zzS] at c0); have f0 := frees_of k0))
              go_meet
              exact ⟨k0, kR, kN, hU0, hz⟩
          case rest =>
            clear k0 kR kN hU0 hz c0 cR cN f0 fR fN
            obtain ⟨k0, kR, kN, hU0, hz⟩ := hcut
            generalize (if is = true then lo else -1) = mx at *
            have cN := cells_of kN; (try simp only [rdC, nodeC, tokC, setC, zzT, zzO, zzS] at cN); have fN := frees_of kN; have cR := cells_of kR; (try simp only [rdC, nodeC, tokC, setC, zzT, zzO, zzS] at cR); have fR := frees_of kR; have c0 := cells_of k0; (try simp only [rdC, nodeC, tokC, setC, zzT, zzO, zzS] at c0); have f0 := frees_of k0
            clear hk hq
            go_upto_region 12 with fail
            go_simp
            go_cut [70] (fun t w' => t = .bool (atB s.data.toList k 44) ∧ w' = wc)
            case first =>
              go_wp2
              all_goals
                go_meet
                exact ⟨congrArg Value.bool (by first | exact (atB_in (by assumption) 44).symm | exact (atB_out (by assumption) 44).symm), rfl⟩
            case rest =>
              obtain ⟨rfl, rfl⟩ := hcut
              go_upto_if 70 with fail
              go_cut [1] (fun at_ w' => ∃ (mx2 : Int) (j2 : Nat), at_ = .int .i64 (j2 : Nat) ∧ Hid (bracesC s.data.toList lz lo mx k = bracesB s.data.toList lz lo mx2 j2) ∧ j2 ≤ 1010 ∧ BrcW w rb bR bN R lo mx2 lz w')
              case first =>
                cases hb : atB s.data.toList k 44
                · have hG := Lib.hid (bracesC_no (lz := lz) (lo := lo) (mx := mx) hb)
                  clear hb
                  go_wp2
                  go_meet
                  exact ⟨mx, k, rfl, hG, by omega, k0, kR, kN, hU0, hz⟩
                · have hkl := (atB_iff.1 hb).1
                  rw [HL.out] at hkl
                  obtain ⟨hi2, k2, is2, hq2, hm1, hm2, hm3, hcl⟩ := number_pre s rb (k + 1) ((k : Int) + 1) (by omega) hs (by omega)
                  have HCL := Lib.hid hcl
                  clear hcl
                  by_cases hn : k + 1 < k2 ∧ is2 = false
                  · have HG := Lib.hid (bracesC_none (lz := lz) (lo := lo) (mx := mx) hb hq2.out hn)
                    obtain ⟨hn1, rfl⟩ := hn
                    clear hm3 hb
                    go_wp2_with (first
                      | (go_at_call 108; refine (HCL.out _ (c0 0 |>.trans hR)).mono ?_; rintro e w' ⟨rfl, rfl⟩)
                      | ((with_reducible refine stopLd 113 _ rfl ?_); unfold Stop; refine wpList_load_row rfl 113 _ rfl _ rfl 113 _ (0, 0) _ kN Try.underlying113 rfl (by kernel_rfl) ?_)
                      | ((with_reducible refine stopSt 113 _ _ rfl ?_); unfold Stop; refine wpList_store_blk rfl 113 _ _ rfl _ _ rfl _ (by go_simp; first | done | exact rfl) _ _ _ kR (zzB rfl) (by kernel_rfl) rfl (by simp only [spl, rdC, nodeC, tokC, setC, Value.cells, zzT, zzO, zzS, Array.toList]; exact rfl) ?_; intro wn kn hUn hsn; clear cR fR cN fN c0 f0; replace kN := hUn.heap kN (by omega); replace k0 := hUn.heap k0 (by omega); replace kR := kn; replace hU0 := hU0.then hUn (fun i hi (e : i = _) => by first | exact e | exact absurd hi (by omega) | (subst e; first | assumption | (show _ ≤ _; omega)) | exact .inl e | exact .inr e | exact .inr (.inl e) | exact .inr (.inr e)); replace hz := Nat.le_trans hz (Nat.le_of_eq hsn.symm); clear kn hUn hsn; have cR := cells_of kR; (try simp only [rdC, nodeC, tokC, setC, zzT, zzO, zzS] at cR); have fR := frees_of kR; have cN := cells_of kN; (try simp only [rdC, nodeC, tokC, setC, zzT, zzO, zzS] at cN); have fN := frees_of kN; have c0 := cells_of k0; (try simp only [rdC, nodeC, tokC, setC, zzT, zzO, zzS] at c0); have f0 := frees_of k0)
                      | ((with_reducible refine stopSt 3 _ _ rfl ?_); unfold Stop; refine wpList_store_blk rfl 3 _ _ rfl _ _ rfl _ (by go_simp; first | done | exact rfl) _ _ _ kN (zzB rfl) (by kernel_rfl) rfl (by simp only [spl, rdC, nodeC, tokC, setC, Value.cells, zzT, zzO, zzS, Array.toList]; exact rfl) ?_; intro wn kn hUn hsn; clear cN fN cR fR c0 f0; replace kR := hUn.heap kR (by omega); replace k0 := hUn.heap k0 (by omega); replace kN := kn; replace hU0 := hU0.then hUn (fun i hi (e : i = _) => by first | exact e | exact absurd hi (by omega) | (subst e; first | assumption | (show _ ≤ _; omega)) | exact .inl e | exact .inr e | exact .inr (.inl e) | exact .inr (.inr e)); replace hz := Nat.le_trans hz (Nat.le_of_eq hsn.symm); clear kn hUn hsn; have cN := cells_of kN; (try simp only [rdC, nodeC, tokC, setC, zzT, zzO, zzS] at cN); have fN := frees_of kN; have cR := cells_of kR; (try simp only [rdC, nodeC, tokC, setC, zzT, zzO, zzS] at cR); have fR := frees_of kR; have c0 := cells_of k0; (try simp only [rdC, nodeC, tokC, setC, zzT, zzO, zzS] at c0); have f0 := frees_of k0))
                    exact bodyPost_ret (v := .tuple #[.agg _, .int .i64 0, .bool false]) (results_blk_tmp2 Try.results106 _ _ bR 113 _ (0, 0) _ rfl kR Try.underlying113 rfl (by kernel_rfl)) rfl ⟨bracesV_none (hF.out.trans (HE.out.trans HG.out)) lz lo mx rfl, hU0⟩
                  · have HG := Lib.hid (bracesC_B (lz := lz) (lo := lo) (mx := mx) hb hq2.out hn)
                    have hk : (is2 = true ∧ k + 1 < k2) ∨ (is2 = false ∧ k2 = k + 1) := by
                      cases is2
                      · right; exact ⟨rfl, by have : ¬ k + 1 < k2 := fun h => hn ⟨h, rfl⟩; omega⟩
                      · left; exact ⟨rfl, hm3 rfl⟩
                    clear hm3 hn hb
                    rcases hk with ⟨rfl, hk⟩ | ⟨rfl, rfl⟩
                    all_goals
                      go_wp2_with (first
                        | (go_at_call 108; refine (HCL.out _ (c0 0 |>.trans hR)).mono ?_; rintro e w' ⟨rfl, rfl⟩)
                        | ((with_reducible refine stopLd 113 _ rfl ?_); unfold Stop; refine wpList_load_row rfl 113 _ rfl _ rfl 113 _ (0, 0) _ kN Try.underlying113 rfl (by kernel_rfl) ?_)
                        | ((with_reducible refine stopSt 113 _ _ rfl ?_); unfold Stop; refine wpList_store_blk rfl 113 _ _ rfl _ _ rfl _ (by go_simp; first | done | exact rfl) _ _ _ kR (zzB rfl) (by kernel_rfl) rfl (by simp only [spl, rdC, nodeC, tokC, setC, Value.cells, zzT, zzO, zzS, Array.toList]; exact rfl) ?_; intro wn kn hUn hsn; clear cR fR cN fN c0 f0; replace kN := hUn.heap kN (by omega); replace k0 := hUn.heap k0 (by omega); replace kR := kn; replace hU0 := hU0.then hUn (fun i hi (e : i = _) => by first | exact e | exact absurd hi (by omega) | (subst e; first | assumption | (show _ ≤ _; omega)) | exact .inl e | exact .inr e | exact .inr (.inl e) | exact .inr (.inr e)); replace hz := Nat.le_trans hz (Nat.le_of_eq hsn.symm); clear kn hUn hsn; have cR := cells_of kR; (try simp only [rdC, nodeC, tokC, setC, zzT, zzO, zzS] at cR); have fR := frees_of kR; have cN := cells_of kN; (try simp only [rdC, nodeC, tokC, setC, zzT, zzO, zzS] at cN); have fN := frees_of kN; have c0 := cells_of k0; (try simp only [rdC, nodeC, tokC, setC, zzT, zzO, zzS] at c0); have f0 := frees_of k0)
                        | ((with_reducible refine stopSt 3 _ _ rfl ?_); unfold Stop; refine wpList_store_blk rfl 3 _ _ rfl _ _ rfl _ (by go_simp; first | done | exact rfl) _ _ _ kN (zzB rfl) (by kernel_rfl) rfl (by simp only [spl, rdC, nodeC, tokC, setC, Value.cells, zzT, zzO, zzS, Array.toList]; exact rfl) ?_; intro wn kn hUn hsn; clear cN fN cR fR c0 f0; replace kR := hUn.heap kR (by omega); replace k0 := hUn.heap k0 (by omega); replace kN := kn; replace hU0 := hU0.then hUn (fun i hi (e : i = _) => by first | exact e | exact absurd hi (by omega) | (subst e; first | assumption | (show _ ≤ _; omega)) | exact .inl e | exact .inr e | exact .inr (.inl e) | exact .inr (.inr e)); replace hz := Nat.le_trans hz (Nat.le_of_eq hsn.symm); clear kn hUn hsn; have cN := cells_of kN; (try simp only [rdC, nodeC, tokC, setC, zzT, zzO, zzS] at cN); have fN := frees_of kN; have cR := cells_of kR; (try simp only [rdC, nodeC, tokC, setC, zzT, zzO, zzS] at cR); have fR := frees_of kR; have c0 := cells_of k0; (try simp only [rdC, nodeC, tokC, setC, zzT, zzO, zzS] at c0); have f0 := frees_of k0))
                      go_meet
                      first | exact ⟨_, k2, rfl, HG, by omega, k0, kR, kN, hU0, hz⟩ | exact ⟨_, k + 1, rfl, HG, by omega, k0, kR, kN, hU0, hz⟩
              case rest =>
                clear k0 kR kN hU0 hz c0 cR cN f0 fR fN
                obtain ⟨mx2, j2, rfl, hG, hj2, ⟨k0, kR, kN, hU0, hz⟩⟩ := hcut
                have cN := cells_of kN; (try simp only [rdC, nodeC, tokC, setC, zzT, zzO, zzS] at cN); have fN := frees_of kN; have cR := cells_of kR; (try simp only [rdC, nodeC, tokC, setC, zzT, zzO, zzS] at cR); have fR := frees_of kR; have c0 := cells_of k0; (try simp only [rdC, nodeC, tokC, setC, zzT, zzO, zzS] at c0); have f0 := frees_of k0
                go_upto_region 20 with fail
                go_simp
                go_cut [108] (fun t w' => t = .bool (atB s.data.toList j2 92) ∧ w' = wc)
                case first =>
                  go_wp2
                  all_goals
                    go_meet
                    exact ⟨congrArg Value.bool (by first | exact (atB_in (by assumption) 92).symm | exact (atB_out (by assumption) 92).symm), rfl⟩
                case rest =>
                  obtain ⟨rfl, rfl⟩ := hcut
                  go_upto_if 108 with fail
                  go_cut [1] (fun at_ w' => ∃ (j3 : Nat), at_ = .int .i64 (j3 : Nat) ∧ Hid (bracesB s.data.toList lz lo mx2 j2 = bracesE s.data.toList lz lo mx2 j3) ∧ j3 ≤ 1011 ∧ w' = wc)
                  case first =>
                    cases hb : atB s.data.toList j2 92
                    · have hH := Lib.hid (bracesB_no (lz := lz) (lo := lo) (mx := mx2) hb)
                      clear hb
                      go_wp2
                      go_meet
                      exact ⟨j2, rfl, hH, by omega, rfl⟩
                    · have hH := Lib.hid (bracesB_yes (lz := lz) (lo := lo) (mx := mx2) hb)
                      clear hb
                      go_wp2
                      go_meet
                      exact ⟨j2 + 1, rfl, hH, by omega, rfl⟩
                  case rest =>
                    obtain ⟨j3, rfl, hH, hj3, rfl⟩ := hcut
                    go_wp2_with (first
                      | (go_at_call 108; refine (HCL.out _ (c0 0 |>.trans hR)).mono ?_; rintro e w' ⟨rfl, rfl⟩)
                      | ((with_reducible refine stopLd 113 _ rfl ?_); unfold Stop; refine wpList_load_row rfl 113 _ rfl _ rfl 113 _ (0, 0) _ kN Try.underlying113 rfl (by kernel_rfl) ?_)
                      | ((with_reducible refine stopSt 113 _ _ rfl ?_); unfold Stop; refine wpList_store_blk rfl 113 _ _ rfl _ _ rfl _ (by go_simp; first | done | exact rfl) _ _ _ kR (zzB rfl) (by kernel_rfl) rfl (by simp only [spl, rdC, nodeC, tokC, setC, Value.cells, zzT, zzO, zzS, Array.toList]; exact rfl) ?_; intro wn kn hUn hsn; clear cR fR cN fN c0 f0; replace kN := hUn.heap kN (by omega); replace k0 := hUn.heap k0 (by omega); replace kR := kn; replace hU0 := hU0.then hUn (fun i hi (e : i = _) => by first | exact e | exact absurd hi (by omega) | (subst e; first | assumption | (show _ ≤ _; omega)) | exact .inl e | exact .inr e | exact .inr (.inl e) | exact .inr (.inr e)); replace hz := Nat.le_trans hz (Nat.le_of_eq hsn.symm); clear kn hUn hsn; have cR := cells_of kR; (try simp only [rdC, nodeC, tokC, setC, zzT, zzO, zzS] at cR); have fR := frees_of kR; have cN := cells_of kN; (try simp only [rdC, nodeC, tokC, setC, zzT, zzO, zzS] at cN); have fN := frees_of kN; have c0 := cells_of k0; (try simp only [rdC, nodeC, tokC, setC, zzT, zzO, zzS] at c0); have f0 := frees_of k0)
                      | ((with_reducible refine stopSt 3 _ _ rfl ?_); unfold Stop; refine wpList_store_blk rfl 3 _ _ rfl _ _ rfl _ (by go_simp; first | done | exact rfl) _ _ _ kN (zzB rfl) (by kernel_rfl) rfl (by simp only [spl, rdC, nodeC, tokC, setC, Value.cells, zzT, zzO, zzS, Array.toList]; exact rfl) ?_; intro wn kn hUn hsn; clear cN fN cR fR c0 f0; replace kR := hUn.heap kR (by omega); replace k0 := hUn.heap k0 (by omega); replace kN := kn; replace hU0 := hU0.then hUn (fun i hi (e : i = _) => by first | exact e | exact absurd hi (by omega) | (subst e; first | assumption | (show _ ≤ _; omega)) | exact .inl e | exact .inr e | exact .inr (.inl e) | exact .inr (.inr e)); replace hz := Nat.le_trans hz (Nat.le_of_eq hsn.symm); clear kn hUn hsn; have cN := cells_of kN; (try simp only [rdC, nodeC, tokC, setC, zzT, zzO, zzS] at cN); have fN := frees_of kN; have cR := cells_of kR; (try simp only [rdC, nodeC, tokC, setC, zzT, zzO, zzS] at cR); have fR := frees_of kR; have c0 := cells_of k0; (try simp only [rdC, nodeC, tokC, setC, zzT, zzO, zzS] at c0); have f0 := frees_of k0))
                    all_goals
                      clear kN cR fR cN fN c0 f0 HCL
                      first
                        | exact bodyPost_ret (v := .tuple #[.agg _, .int .i64 0, .bool false]) (results_blk_tmp2 Try.results106 _ _ bR 113 _ (0, 0) _ rfl kR Try.underlying113 rfl (by kernel_rfl)) rfl ⟨bracesV_none (hF.out.trans (HE.out.trans (hG.out.trans (hH.out.trans (bracesE_none (by rw [HL.out]; first | omega | (rw [← bl_at (by assumption)]; omega) | (rw [← bl_at (by assumption)]; simp_all; done) | (rw [← bl_at (by assumption)]; simp_all; omega))))))) lz lo mx2 rfl, hU0⟩
                        | exact bodyPost_ret (v := .tuple #[.agg _, .int .i64 ((j3 : Int) + 1), .bool true]) (results_blk_tmp2 Try.results106 _ _ bR 113 _ (0, 0) _ rfl kR Try.underlying113 rfl (by kernel_rfl)) rfl ⟨bracesV_some (k := j3 + 1) (hF.out.trans (HE.out.trans (hG.out.trans (hH.out.trans (bracesE_some (by rw [HL.out]; first | omega | (rw [← bl_at (by assumption)]; omega) | (rw [← bl_at (by assumption)]; simp_all; done) | (rw [← bl_at (by assumption)]; simp_all; omega))))))) (by simp), hU0⟩
                        | (trace_state; fail )
end Go.Proofs.Ytigbfgmgdfnhcaa
