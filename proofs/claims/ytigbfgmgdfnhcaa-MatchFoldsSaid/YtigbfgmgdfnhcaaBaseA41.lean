/- Lemmas that the law's proof stands on, part 41: Eql, Knw, Read, RdP. No condition. -/
import Derived.Test.YtigbfgmgdfnhcaaBaseA0
import Derived.Deep.Slices
import Derived.Lib.SmallJoins
import Derived.OpenShut
import Derived.ProofKit
import Derived.WalkKit
import Derived.Test.YtigbfgmgdfnhcaaBaseA26
import Derived.Test.YtigbfgmgdfnhcaaBaseA40
set_option linter.all false
set_option linter.unusedVariables false
set_option linter.unusedSimpArgs false
namespace Go.Proofs.Ytigbfgmgdfnhcaa
open Go.RowKit
def intsA (l : List Int) : Array Value := (l.map (Value.int .i64)).toArray
theorem part_int (w : World) (l : List Int) (i : Nat) (h : i < l.length) : (part 3 (intsA l) i).run Try.prog w = .ok (.int .i64 (l.getD i 0)) w := by
  have e : (intsA l)[i]? = some (.int .i64 (l.getD i 0)) := by
    simp [intsA, List.getD_eq_getElem?_getD, List.getElem?_eq_getElem h]
  have hagg : (isAgg 3).run Try.prog w = .ok false w := by
    unfold isAgg
    rw [Sem.run_bind, run_underlying Try.underlying3 w]
    rfl
  unfold part
  rw [Sem.run_bind, hagg]
  simp only [Result.andThen_ok, Bool.false_eq_true, if_false, e, Sem.run_pure]
theorem forIn_ints (w : World) (d : Nat) (l m : List Int) : ∀ (k i : Nat), i + k ≤ l.length → i + k ≤ m.length → l.take i = m.take i →
    (forIn (List.range' i k 1) ((none, ()) : Option Bool × Unit) (fun j _ => do
      let a ← part 3 (intsA l) (j * 1)
      let b ← part 3 (intsA m) (j * 1)
      let r ← Op.equalIn (d + 1) 3 a b
      if (!r) = true then pure (ForInStep.done (some false, ())) else pure (ForInStep.yield (none, ())))).run Try.prog w = .ok (if l.take (i + k) = m.take (i + k) then (none, ()) else (some false, ())) w
  | 0, i, _, _, h => by simp [h]
  | k + 1, i, h1, h2, h => by
    rw [List.range'_succ, List.forIn_cons, Sem.run_bind, Sem.run_bind, Nat.mul_one, part_int w l i (by omega), Result.andThen_ok, Sem.run_bind, part_int w m i (by omega), Result.andThen_ok, Sem.run_bind, run_equalIn_int w d _ _ _ _ _ Try.underlying3, Result.andThen_ok]
    have hl : l.take (i + 1) = l.take i ++ [l.getD i 0] := by
      rw [List.take_add_one, List.getD_eq_getElem?_getD, List.getElem?_eq_getElem (by omega)]; rfl
    have hm : m.take (i + 1) = m.take i ++ [m.getD i 0] := by
      rw [List.take_add_one, List.getD_eq_getElem?_getD, List.getElem?_eq_getElem (by omega)]; rfl
    by_cases he : l.getD i 0 = m.getD i 0
    · have hb : (l.getD i 0 == m.getD i 0) = true := by simpa using he
      rw [hb]
      simp only [Bool.not_true, Bool.false_eq_true, if_false, Sem.run_pure, Result.andThen_ok]
      rw [forIn_ints w d l m k (i + 1) (by omega) (by omega) (by rw [hl, hm, h, he])]
      rw [show i + 1 + k = i + (k + 1) by omega]
    · have hb : (l.getD i 0 == m.getD i 0) = false := by simpa using he
      rw [hb]
      simp only [Bool.not_false, if_true, Sem.run_pure, Result.andThen_ok]
      rw [if_neg]
      intro e
      have e2 := congrArg (fun x => x.getD i 0) e
      simp only [List.getD_eq_getElem?_getD, List.getElem?_take, show i < i + (k + 1) by omega, if_true] at e2
      exact he (by simpa [List.getD_eq_getElem?_getD] using e2)
theorem eql_ints (w : World) (d : Nat) (l m : List Int) (hl : l.length = 10) (hm : m.length = 10) : (Op.equalIn (d + 2) 22 (.agg (intsA l)) (.agg (intsA m))).run Try.prog w = .ok (l == m) w := by
  have hsz : (sizeOf 3).run Try.prog w = .ok 1 w := by
    obtain ⟨i0, hi, hz0, hz1, hz2⟩ := info_parts info_int5
    simp [sizeOf, typeInfo, hi, hz1, Sem.run_bind]
  have h := forIn_ints w d l m 10 0 (by omega) (by omega) rfl
  have e1 : l.take (0 + 10) = l := List.take_of_length_le (by omega)
  have e2 : m.take (0 + 10) = m := List.take_of_length_le (by omega)
  rw [e1, e2] at h
  unfold Op.equalIn
  simp only [Sem.run_bind, run_underlying Try.underlying22, Result.andThen_ok, hsz]
  rw [Std.Legacy.Range.forIn_eq_forIn_range']
  refine (congrArg (fun r => Result.andThen r _) h).trans ?_
  by_cases he : l = m
  · subst he; simp [Result.andThen]
  · have hb : (l == m) = false := by simpa using he
    rw [hb]; simp [he, Result.andThen]
theorem list10 {l : List Int} (h : l.length = 10) : ∃ a0 a1 a2 a3 a4 a5 a6 a7 a8 a9, l = [a0, a1, a2, a3, a4, a5, a6, a7, a8, a9] := by
  match l, h with
  | [a0, a1, a2, a3, a4, a5, a6, a7, a8, a9], _ => exact ⟨a0, a1, a2, a3, a4, a5, a6, a7, a8, a9, rfl⟩
theorem equal_match (w : World) (m n : MatchD) (h1 : m.beg.length = 10) (h2 : m.end_.length = 10) (h3 : n.beg.length = 10) (h4 : n.end_.length = 10) :
    (Op.equalIn 10000 24 (.agg (matchC m)) (.agg (matchC n))).run Try.prog w = .ok (decide (m = n)) w := by
  have q1 := eql_ints w 9997 m.beg n.beg h1 h3
  have q2 := eql_ints w 9997 m.end_ n.end_ h2 h4
  obtain ⟨f1, t1, bs1, es1⟩ := m
  obtain ⟨f2, t2, bs2, es2⟩ := n
  simp only [] at h1 h2 h3 h4 q1 q2
  have hd : decide ((⟨f1, t1, bs1, es1⟩ : MatchD) = ⟨f2, t2, bs2, es2⟩) = (decide (f1 = f2) && decide (t1 = t2) && (bs1 == bs2) && (es1 == es2)) := by
    rw [Bool.eq_iff_iff]; simp [MatchD.mk.injEq, and_assoc]
  rw [hd]
  clear hd
  obtain ⟨B1, hB1⟩ : ∃ B, (bs1 == bs2) = B := ⟨_, rfl⟩
  obtain ⟨B2, hB2⟩ : ∃ B, (es1 == es2) = B := ⟨_, rfl⟩
  rw [hB1] at q1 ⊢
  rw [hB2] at q2 ⊢
  clear hB1 hB2
  obtain ⟨b0, b1, b2, b3, b4, b5, b6, b7, b8, b9, rfl⟩ := list10 h1
  obtain ⟨e0, e1, e2, e3, e4, e5, e6, e7, e8, e9, rfl⟩ := list10 h2
  obtain ⟨c0, c1, c2, c3, c4, c5, c6, c7, c8, c9, rfl⟩ := list10 h3
  obtain ⟨g0, g1, g2, g3, g4, g5, g6, g7, g8, g9, rfl⟩ := list10 h4
  simp only [intsA, List.map_cons, List.map_nil] at q1 q2
  rw [run_equalIn_struct w 9999 24 _ _ (by kernel_rfl) (by kernel_rfl)]
  simp only [matchC, matchL, List.map_cons, List.map_nil, List.cons_append, List.nil_append]
  go_simp
  by_cases hf : f1 = f2 <;> by_cases ht : t1 = t2 <;> cases B1 <;> cases B2 <;> simp [hf, ht]
theorem eql_match (w : World) (m n : MatchD) (h1 : m.beg.length = 10) (h2 : m.end_.length = 10) (h3 : n.beg.length = 10) (h4 : n.end_.length = 10) : (Go.binOp .eql 24 (.agg (matchC m)) (.agg (matchC n))).run Try.prog w = .ok (.bool (decide (m = n))) w := by
  rw [run_eql_struct, equal_match w m n h1 h2 h3 h4, Result.andThen_ok]
theorem neq_match (w : World) (m n : MatchD) (h1 : m.beg.length = 10) (h2 : m.end_.length = 10) (h3 : n.beg.length = 10) (h4 : n.end_.length = 10) : (Go.binOp .neq 24 (.agg (matchC m)) (.agg (matchC n))).run Try.prog w = .ok (.bool (!decide (m = n))) w := by
  rw [run_neq_struct, equal_match w m n h1 h2 h3 h4, Result.andThen_ok]
theorem fromF_len (p : ProgD) (l : List UInt8) : ∀ (f : Nat) (a st : Int) (R : ResD), fromF p l f a st = some R → R.m.beg.length = 10 ∧ R.m.end_.length = 10
  | 0, _, _, _, h => by unfold fromF at h; cases h
  | f + 1, a, st, R, h => by
    unfold fromF at h
    obtain ⟨r, hr⟩ := atF_some p l a st
    rw [hr] at h
    simp only [] at h
    split at h
    · injection h with h; subst h; exact atF_len hr
    · exact fromF_len p l f _ _ R h
theorem fromF_err (p : ProgD) (l : List UInt8) : ∀ (f : Nat) (a st : Int) (R : ResD), fromF p l f a st = some R → R.err = 0 ∨ R.err = 1 ∨ R.err = 50
  | 0, _, _, _, h => by unfold fromF at h; cases h
  | f + 1, a, st, R, h => by
    unfold fromF at h
    obtain ⟨r, hr⟩ := atF_some p l a st
    rw [hr] at h
    simp only [] at h
    split at h
    · injection h with h; subst h; exact (atF_left hr).2.2.1
    · exact fromF_err p l f _ _ R h
theorem wpList_want {P : Program} {ops : Array Oper} {Q : Exit → Act → World → Prop} {a : Act} {w : World} {rest : List Oper} {o : Oper} (hw : Region.wanted o (yielded ops a.tmps) = true) (h : ∀ K : Act → World → Prop, (∀ a w, wpList P ops Q rest a w → K a w) → o.wp P a w K Q) : wpList P ops Q (o :: rest) a w := by
  unfold wpList
  rw [if_pos hw]
  exact .inl (h _ (fun _ _ h => h))
end Go.Proofs.Ytigbfgmgdfnhcaa
namespace Go.Proofs.Ytigbfgmgdfnhcaa
open Go.RowKit
def ranB (s line : List UInt8) (c : ResD → Bool) : Bool := match compiledF s false with
  | some q => match atF q line 0 100 with
    | some r => c r
    | none => false
  | none => false
theorem known_a : ranB [97, 42] [97, 97, 98] (fun r => r.is && r.err == 0 && r.m.from_ == 0 && r.m.to_ == 2) = true := by decide +kernel
theorem known_b : ranB [92, 40, 97, 92, 41, 92, 49] [97, 97] (fun r => r.is && r.err == 0 && r.m.to_ == 2 && r.m.beg.getD 1 0 == 0 && r.m.end_.getD 1 0 == 1) = true := by decide +kernel
theorem ranB_out {s line : List UInt8} {c : ResD → Bool} (h : ranB s line c = true) : ∃ q, compiledF s false = some q ∧ ∃ r, atF q line 0 100 = some r ∧ c r = true := by
  unfold ranB at h
  split at h
  · rename_i q hq
    split at h
    · rename_i r hr; exact ⟨q, hq, r, hr, h⟩
    · cases h
  · cases h
/-- What a match's cells are. -/
structure MD (D : Array Value) : Prop where
  size : D.size = 22
  ones : D.toList.all (·.oneCell') = true
theorem MD.info {D : Array Value} (h : MD D) : (Try.prog.info? 24).map (·.size) = some D.size := by rw [h.size]; kernel_rfl
theorem MD.spl {D : Array Value} (h : MD D) : spl #[.int .i64 0, .int .i64 0, .int .i64 0, .int .i64 0, .int .i64 0, .int .i64 0, .int .i64 0, .int .i64 0, .int .i64 0, .int .i64 0, .int .i64 0, .int .i64 0, .int .i64 0, .int .i64 0, .int .i64 0, .int .i64 0, .int .i64 0, .int .i64 0, .int .i64 0, .int .i64 0, .int .i64 0, .int .i64 0] 0 D.toList = D := spl_all _ _ (by rw [Array.length_toList, h.size]; rfl)
theorem MD.le {D : Array Value} (h : MD D) : 0 + D.size ≤ (#[.int .i64 0, .int .i64 0, .int .i64 0, .int .i64 0, .int .i64 0, .int .i64 0, .int .i64 0, .int .i64 0, .int .i64 0, .int .i64 0, .int .i64 0, .int .i64 0, .int .i64 0, .int .i64 0, .int .i64 0, .int .i64 0, .int .i64 0, .int .i64 0, .int .i64 0, .int .i64 0, .int .i64 0, .int .i64 0] : Array Value).size := by rw [h.size]; decide
theorem md_of {m : MatchD} (h : m.beg.length = 10 ∧ m.end_.length = 10) : MD (matchC m) := ⟨match_size _ h.1 h.2, match_one _⟩
set_option maxRecDepth 100000 in
set_option maxHeartbeats 8000000 in
theorem known_any {W : World} : Calls Try.prog 17 #[] W fun e w' => e = .returned (.bool true) ∧ Upd (fun _ => False) W w' := by
  obtain ⟨q1, hq1, ⟨m1, l1, is1, e1⟩, hr1, hb1⟩ := ranB_out known_a
  obtain ⟨q2, hq2, ⟨m2, l2, is2, e2⟩, hr2, hb2⟩ := ranB_out known_b
  simp only [Bool.and_eq_true, beq_iff_eq] at hb1 hb2
  obtain ⟨⟨⟨rfl, rfl⟩, hf1⟩, ht1⟩ := hb1
  obtain ⟨⟨⟨⟨rfl, rfl⟩, ht2⟩, hg2⟩, he2⟩ := hb2
  obtain ⟨D1, hD1⟩ : ∃ D, matchC m1 = D := ⟨_, rfl⟩
  obtain ⟨D2, hD2⟩ : ∃ D, matchC m2 = D := ⟨_, rfl⟩
  have hl1 := atF_len hr1
  have hl2 := atF_len hr2
  simp only [] at hl1 hl2
  have MD1 : Hid (MD D1) := Lib.hid (by rw [← hD1]; exact md_of hl1)
  have MD2 : Hid (MD D2) := Lib.hid (by rw [← hD2]; exact md_of hl2)
  have HF : Hid (D1[0]? = some (.int .i64 0) ∧ D1[1]? = some (.int .i64 2)) := Lib.hid (by rw [← hD1, ← hf1, ← ht1]; exact ⟨match_from _, match_to _⟩)
  have HG : Hid (D2[1]? = some (.int .i64 2) ∧ D2[3]? = some (.int .i64 0) ∧ D2[13]? = some (.int .i64 1)) := Lib.hid (by rw [← hD2, ← ht2, ← hg2, ← he2]; exact ⟨match_to _, match_beg m2 1 (by omega), match_end m2 1 hl2.1 (by omega)⟩)
  have HD1 := Lib.hid hD1
  have HD2 := Lib.hid hD2
  have HQ1 := Lib.hid hq1
  have HQ2 := Lib.hid hq2
  have HR1 := Lib.hid hr1
  have HR2 := Lib.hid hr2
  clear hq1 hq2 hr1 hr2 hf1 ht1 ht2 hg2 he2 hD1 hD2 hl1 hl2
  have HUB := Lib.hid (Upd.refl (fun _ => False) W)
  obtain ⟨w, rfl⟩ : ∃ w, w = W := ⟨_, rfl⟩
  have hU0 := Upd.refl (fun k => w.heap.size ≤ k) w
  have hz := Nat.le_refl w.heap.size
  go_enter Try.func17, Try.ntmps17
  go_upto_region 2 with (first
    | (go_at_call 15; refine (compiled_any ⟨#[97, 42]⟩ false q1 (zzB rfl) HQ1.out).mono ?_; rintro e w9 ⟨cvP, rfl, hcdP, huP⟩; obtain ⟨caP, ccP, rfl⟩ := hcdP.form; unfold progC; replace hz := Nat.le_trans hz (huP).size; replace hU0 := hU0.then huP (fun _ _ h => h.elim); replace HUB := Lib.hid (HUB.out.then hU0.old (fun _ _ h => h)); have HCP := Lib.hid hcdP.rows; clear hU0 hz hcdP huP; obtain ⟨w, rfl⟩ : ∃ x, x = w9 := ⟨_, rfl⟩; have hU0 := Upd.refl (fun k => w.heap.size ≤ k) w; have hz := Nat.le_refl w.heap.size)
    | ((with_reducible refine stopAl 31 rfl ?_); unfold Stop; refine wpList_alloc_blk rfl 31 rfl (.agg #[.slice none 0 0, .int .i64 0, .bool false]) (by kernel_rfl) #[.slice none 0 0, .int .i64 0, .bool false] rfl ?_; intro bP wn hbn kn hUn hsn; have gP : w.heap.size ≤ bP := Nat.le_trans hU0.size (Nat.le_of_eq hbn); have kP := kn; replace hU0 := hU0.then hUn (fun _ _ h => h.elim); replace hz : w.heap.size ≤ wn.heap.size := (by omega); clear kn hUn hsn hbn; have cP := cells_of kP; (try simp only [progC, zzT, zzO, zzS] at cP); have fP := frees_of kP)
    | ((with_reducible refine stopSt 31 _ _ rfl ?_); unfold Stop; refine wpList_store_blk rfl 31 _ _ rfl _ _ rfl _ (by go_simp; first | done | exact rfl) _ _ _ kP (zzB rfl) (by kernel_rfl) rfl (by simp only [spl, progC, Value.cells, zzT, zzO, zzS, Array.toList]; exact rfl) ?_; intro wn kn hUn hsn; clear cP fP; replace kP := kn; replace hU0 := hU0.then hUn (fun i hi (e : i = _) => by first | exact e | exact absurd hi (by omega) | (subst e; first | assumption | (show _ ≤ _; omega)) | exact .inl e | exact .inr e | exact .inr (.inl e) | exact .inr (.inr e)); replace hz := Nat.le_trans hz (Nat.le_of_eq hsn.symm); clear kn hUn hsn; have cP := cells_of kP; (try simp only [progC, zzT, zzO, zzS] at cP); have fP := frees_of kP))
  go_upto_region 3 with (first
    | (go_at_call 15; refine (compiled_any ⟨#[92, 40, 97, 92, 41, 92, 49]⟩ false q2 (zzB rfl) HQ2.out).mono ?_; rintro e w9 ⟨cvQ, rfl, hcdQ, huQ⟩; obtain ⟨caQ, ccQ, rfl⟩ := hcdQ.form; unfold progC; clear cP fP; replace kP := (huQ).heap kP (fun h => h); replace hz := Nat.le_trans hz (huQ).size; replace hU0 := hU0.then huQ (fun _ _ h => h.elim); have cP := cells_of kP; (try simp only [progC, zzT, zzO, zzS] at cP); have fP := frees_of kP; replace HUB := Lib.hid (HUB.out.then hU0.old (fun _ _ h => h)); replace HCP := Lib.hid (HCP.out.newer hU0); have HCQ := Lib.hid hcdQ.rows; clear hU0 hz hcdQ huQ; obtain ⟨w, rfl⟩ : ∃ x, x = w9 := ⟨_, rfl⟩; have hU0 := Upd.refl (fun k => w.heap.size ≤ k) w; have hz := Nat.le_refl w.heap.size)
    | ((with_reducible refine stopAl 31 rfl ?_); unfold Stop; refine wpList_alloc_blk rfl 31 rfl (.agg #[.slice none 0 0, .int .i64 0, .bool false]) (by kernel_rfl) #[.slice none 0 0, .int .i64 0, .bool false] rfl ?_; intro bQ wn hbn kn hUn hsn; clear cP fP; have lPQ := heap_lt kP; rw [hbn] at lPQ; replace kP := hUn.heap kP (fun h => h); have gQ : w.heap.size ≤ bQ := Nat.le_trans hU0.size (Nat.le_of_eq hbn); have kQ := kn; replace hU0 := hU0.then hUn (fun _ _ h => h.elim); replace hz : w.heap.size ≤ wn.heap.size := (by omega); clear kn hUn hsn hbn; have cQ := cells_of kQ; (try simp only [progC, zzT, zzO, zzS] at cQ); have fQ := frees_of kQ; have cP := cells_of kP; (try simp only [progC, zzT, zzO, zzS] at cP); have fP := frees_of kP)
    | ((with_reducible refine stopSt 31 _ _ rfl ?_); unfold Stop; refine wpList_store_blk rfl 31 _ _ rfl _ _ rfl _ (by go_simp; first | done | exact rfl) _ _ _ kQ (zzB rfl) (by kernel_rfl) rfl (by simp only [spl, progC, Value.cells, zzT, zzO, zzS, Array.toList]; exact rfl) ?_; intro wn kn hUn hsn; clear cQ fQ cP fP; replace kP := hUn.heap kP (by omega); replace kQ := kn; replace hU0 := hU0.then hUn (fun i hi (e : i = _) => by first | exact e | exact absurd hi (by omega) | (subst e; first | assumption | (show _ ≤ _; omega)) | exact .inl e | exact .inr e | exact .inr (.inl e) | exact .inr (.inr e)); replace hz := Nat.le_trans hz (Nat.le_of_eq hsn.symm); clear kn hUn hsn; have cQ := cells_of kQ; (try simp only [progC, zzT, zzO, zzS] at cQ); have fQ := frees_of kQ; have cP := cells_of kP; (try simp only [progC, zzT, zzO, zzS] at cP); have fP := frees_of kP))
  go_upto_region 4 with (first
    | ((with_reducible refine stopLd 31 _ rfl ?_); unfold Stop; refine wpList_load_row rfl 31 _ rfl _ rfl 31 _ (0, 0) _ kP Try.underlying31 rfl (by kernel_rfl) ?_)
    | (go_at_call 14; refine (at_any q1 caP ccP ⟨#[97, 97, 98]⟩ 0 100 (HCP.out.newer hU0) (zzB rfl) _ HR1.out).mono ?_; rintro e w9 ⟨rfl, hq9⟩; unfold resV; rw [HD1.out]; clear cP fP cQ fQ; replace kP := (hq9).heap kP (fun h => h); replace kQ := (hq9).heap kQ (fun h => h); replace hz := Nat.le_trans hz (hq9).size; replace hU0 := hU0.then hq9 (fun _ _ h => h.elim); have cP := cells_of kP; (try simp only [progC, zzT, zzO, zzS] at cP); have fP := frees_of kP; have cQ := cells_of kQ; (try simp only [progC, zzT, zzO, zzS] at cQ); have fQ := frees_of kQ; clear hq9)
    | ((with_reducible refine stopAl 24 rfl ?_); unfold Stop; refine wpList_alloc_blk rfl 24 rfl (.agg #[.int .i64 0, .int .i64 0, .int .i64 0, .int .i64 0, .int .i64 0, .int .i64 0, .int .i64 0, .int .i64 0, .int .i64 0, .int .i64 0, .int .i64 0, .int .i64 0, .int .i64 0, .int .i64 0, .int .i64 0, .int .i64 0, .int .i64 0, .int .i64 0, .int .i64 0, .int .i64 0, .int .i64 0, .int .i64 0]) (by kernel_rfl) #[.int .i64 0, .int .i64 0, .int .i64 0, .int .i64 0, .int .i64 0, .int .i64 0, .int .i64 0, .int .i64 0, .int .i64 0, .int .i64 0, .int .i64 0, .int .i64 0, .int .i64 0, .int .i64 0, .int .i64 0, .int .i64 0, .int .i64 0, .int .i64 0, .int .i64 0, .int .i64 0, .int .i64 0, .int .i64 0] rfl ?_; intro bX wn hbn kn hUn hsn; clear cP fP cQ fQ; have lPX := heap_lt kP; rw [hbn] at lPX; replace kP := hUn.heap kP (fun h => h); have lQX := heap_lt kQ; rw [hbn] at lQX; replace kQ := hUn.heap kQ (fun h => h); have gX : w.heap.size ≤ bX := Nat.le_trans hU0.size (Nat.le_of_eq hbn); have kX := kn; replace hU0 := hU0.then hUn (fun _ _ h => h.elim); replace hz : w.heap.size ≤ wn.heap.size := (by omega); clear kn hUn hsn hbn; have cX := cells_of kX; (try simp only [progC, zzT, zzO, zzS] at cX); have fX := frees_of kX; have cP := cells_of kP; (try simp only [progC, zzT, zzO, zzS] at cP); have fP := frees_of kP; have cQ := cells_of kQ; (try simp only [progC, zzT, zzO, zzS] at cQ); have fQ := frees_of kQ)
    | ((with_reducible refine stopSt 24 _ _ rfl ?_); unfold Stop; refine wpList_store_blk rfl 24 _ _ rfl bX 0 rfl (.agg D1) rfl #[.int .i64 0, .int .i64 0, .int .i64 0, .int .i64 0, .int .i64 0, .int .i64 0, .int .i64 0, .int .i64 0, .int .i64 0, .int .i64 0, .int .i64 0, .int .i64 0, .int .i64 0, .int .i64 0, .int .i64 0, .int .i64 0, .int .i64 0, .int .i64 0, .int .i64 0, .int .i64 0, .int .i64 0, .int .i64 0] D1 _ kX MD1.out.le MD1.out.info MD1.out.ones MD1.out.spl ?_; intro w8 k8 hu8 hs8; clear cX fX; clear cP fP cQ fQ; replace kP := (hu8).heap kP ((by omega)); replace kQ := (hu8).heap kQ ((by omega)); replace hz := Nat.le_trans hz (hu8).size; replace hU0 := hU0.then hu8 (fun i hi (e : i = bX) => by omega); have cP := cells_of kP; (try simp only [progC, zzT, zzO, zzS] at cP); have fP := frees_of kP; have cQ := cells_of kQ; (try simp only [progC, zzT, zzO, zzS] at cQ); have fQ := frees_of kQ; have kXv := k8; clear k8 kX hu8 hs8; have cXv := cells_of kXv; (try simp only [progC, zzT, zzO, zzS] at cXv); have fXv := frees_of kXv))
  go_upto_region 5 with (first
    | ((with_reducible refine stopLd 31 _ rfl ?_); unfold Stop; refine wpList_load_row rfl 31 _ rfl _ rfl 31 _ (0, 0) _ kQ Try.underlying31 rfl (by kernel_rfl) ?_)
    | (go_at_call 14; refine (at_any q2 caQ ccQ ⟨#[97, 97]⟩ 0 100 (HCQ.out.newer hU0) (zzB rfl) _ HR2.out).mono ?_; rintro e w9 ⟨rfl, hq9⟩; unfold resV; rw [HD2.out]; clear cP fP cQ fQ cXv fXv; replace kP := (hq9).heap kP (fun h => h); replace kQ := (hq9).heap kQ (fun h => h); replace kXv := (hq9).heap kXv (fun h => h); replace hz := Nat.le_trans hz (hq9).size; replace hU0 := hU0.then hq9 (fun _ _ h => h.elim); have cP := cells_of kP; (try simp only [progC, zzT, zzO, zzS] at cP); have fP := frees_of kP; have cQ := cells_of kQ; (try simp only [progC, zzT, zzO, zzS] at cQ); have fQ := frees_of kQ; have cXv := cells_of kXv; (try simp only [progC, zzT, zzO, zzS] at cXv); have fXv := frees_of kXv; clear hq9)
    | ((with_reducible refine stopAl 24 rfl ?_); unfold Stop; refine wpList_alloc_blk rfl 24 rfl (.agg #[.int .i64 0, .int .i64 0, .int .i64 0, .int .i64 0, .int .i64 0, .int .i64 0, .int .i64 0, .int .i64 0, .int .i64 0, .int .i64 0, .int .i64 0, .int .i64 0, .int .i64 0, .int .i64 0, .int .i64 0, .int .i64 0, .int .i64 0, .int .i64 0, .int .i64 0, .int .i64 0, .int .i64 0, .int .i64 0]) (by kernel_rfl) #[.int .i64 0, .int .i64 0, .int .i64 0, .int .i64 0, .int .i64 0, .int .i64 0, .int .i64 0, .int .i64 0, .int .i64 0, .int .i64 0, .int .i64 0, .int .i64 0, .int .i64 0, .int .i64 0, .int .i64 0, .int .i64 0, .int .i64 0, .int .i64 0, .int .i64 0, .int .i64 0, .int .i64 0, .int .i64 0] rfl ?_; intro bY wn hbn kn hUn hsn; clear cP fP cQ fQ cXv fXv; have lPY := heap_lt kP; rw [hbn] at lPY; replace kP := hUn.heap kP (fun h => h); have lQY := heap_lt kQ; rw [hbn] at lQY; replace kQ := hUn.heap kQ (fun h => h); have lXvY := heap_lt kXv; rw [hbn] at lXvY; replace kXv := hUn.heap kXv (fun h => h); have gY : w.heap.size ≤ bY := Nat.le_trans hU0.size (Nat.le_of_eq hbn); have kY := kn; replace hU0 := hU0.then hUn (fun _ _ h => h.elim); replace hz : w.heap.size ≤ wn.heap.size := (by omega); clear kn hUn hsn hbn; have cY := cells_of kY; (try simp only [progC, zzT, zzO, zzS] at cY); have fY := frees_of kY; have cP := cells_of kP; (try simp only [progC, zzT, zzO, zzS] at cP); have fP := frees_of kP; have cQ := cells_of kQ; (try simp only [progC, zzT, zzO, zzS] at cQ); have fQ := frees_of kQ; have cXv := cells_of kXv; (try simp only [progC, zzT, zzO, zzS] at cXv); have fXv := frees_of kXv)
    | ((with_reducible refine stopSt 24 _ _ rfl ?_); unfold Stop; refine wpList_store_blk rfl 24 _ _ rfl bY 0 rfl (.agg D2) rfl #[.int .i64 0, .int .i64 0, .int .i64 0, .int .i64 0, .int .i64 0, .int .i64 0, .int .i64 0, .int .i64 0, .int .i64 0, .int .i64 0, .int .i64 0, .int .i64 0, .int .i64 0, .int .i64 0, .int .i64 0, .int .i64 0, .int .i64 0, .int .i64 0, .int .i64 0, .int .i64 0, .int .i64 0, .int .i64 0] D2 _ kY MD2.out.le MD2.out.info MD2.out.ones MD2.out.spl ?_; intro w8 k8 hu8 hs8; clear cY fY; clear cP fP cQ fQ cXv fXv; replace kP := (hu8).heap kP ((by omega)); replace kQ := (hu8).heap kQ ((by omega)); replace kXv := (hu8).heap kXv ((by omega)); replace hz := Nat.le_trans hz (hu8).size; replace hU0 := hU0.then hu8 (fun i hi (e : i = bY) => by omega); have cP := cells_of kP; (try simp only [progC, zzT, zzO, zzS] at cP); have fP := frees_of kP; have cQ := cells_of kQ; (try simp only [progC, zzT, zzO, zzS] at cQ); have fQ := frees_of kQ; have cXv := cells_of kXv; (try simp only [progC, zzT, zzO, zzS] at cXv); have fXv := frees_of kXv; have kYv := k8; clear k8 kY hu8 hs8; have cYv := cells_of kYv; (try simp only [progC, zzT, zzO, zzS] at cYv); have fYv := frees_of kYv))
  have d0 := cell_of kXv 0 HF.out.1
  have d1 := cell_of kXv 1 HF.out.2
  have e1 := cell_of kYv 1 HG.out.1
  have e3 := cell_of kYv 3 HG.out.2.1
  have e13 := cell_of kYv 13 HG.out.2.2
  clear cXv cYv
  go_wp2
  go_ret
  exact ⟨rfl, HUB.out.then hU0.old (fun _ _ h => h)⟩
end Go.Proofs.Ytigbfgmgdfnhcaa
namespace Go.Proofs.Ytigbfgmgdfnhcaa
open Go.ChangeShapes Go.WideShapes Go.ChangeAt Go.RowKit
theorem wE_cons {H : Type} {P : Program} {t : TypeId} {ts : List TypeId} {d : DataW H} {ds : List (DataW H)} {r : Nat} (h : (DataW.weightsEach P (t :: ts) (d :: ds)).all (· ≤ r) = true) :
    (d.weights P t).all (· ≤ r) = true ∧ (DataW.weightsEach P ts ds).all (· ≤ r) = true := by
  simpa [DataW.weightsEach, List.all_append] using h
theorem wE_at {H : Type} {P : Program} {r : Nat} (ts : List TypeId) : ∀ (ds : List (DataW H)), (DataW.weightsEach P ts ds).all (· ≤ r) = true → ∀ (i : Nat) (t : TypeId) (d : DataW H), ts[i]? = some t → ds[i]? = some d → (d.weights P t).all (· ≤ r) = true := by
  induction ts with
  | nil => intro ds _ i t d h1 _; simp at h1
  | cons t0 ts ih =>
    intro ds h i t d h1 h2
    cases ds with
    | nil => simp at h2
    | cons d0 ds =>
      cases i with
      | zero => simp at h1 h2; subst h1 h2; exact (wE_cons h).1
      | succ i => exact ih ds (wE_cons h).2 i t d (by simpa using h1) (by simpa using h2)
theorem wA_at {H : Type} {P : Program} {e : TypeId} {r : Nat} (ds : List (DataW H)) : (DataW.weightsAll P e ds).all (· ≤ r) = true → ∀ (i : Nat) (d : DataW H), ds[i]? = some d → (d.weights P e).all (· ≤ r) = true := by
  induction ds with
  | nil => intro _ i d h2; simp at h2
  | cons d0 ds ih =>
    intro h i d h2
    simp only [DataW.weightsAll, List.all_append, Bool.and_eq_true] at h
    cases i with
    | zero => simp at h2; subst h2; exact h.1
    | succ i => exact ih h.2 i d (by simpa using h2)
section
variable {H : Type} {enc : TypeId × Value → H} {P : Program} {w : World} {base : Nat} {spare : Nat → Bool} {held : Bool}
/-- The cells of a type's value, as they read. -/
def Reads (enc : TypeId × Value → H) (P : Program) (w : World) (base : Nat) (spare : Nat → Bool) (held : Bool) (t : TypeId) (α : Type) (Q : List Value → α → Prop) : Prop :=
  ∀ fuel cs x, DataW.trod enc P w base spare held fuel t cs = some x → (x.1.weights P t).all (· ≤ reachBytes) = true → ∃ a : α, Q cs a
theorem Reads.mono {t : TypeId} {α β : Type} {Q : List Value → α → Prop} {R : List Value → β → Prop} (h : Reads enc P w base spare held t α Q) (hr : ∀ cs a, Q cs a → ∃ b, R cs b) : Reads enc P w base spare held t β R := by
  intro fuel cs x hx hw
  obtain ⟨a, ha⟩ := h fuel cs x hx hw
  exact hr cs a ha
theorem reads_int {t : TypeId} {k : IntKind} (ht : P.underlying t = some (.int k)) : Reads enc P w base spare held t Int (fun cs a => cs = [.int k a] ∧ (Lit.int k a).wf = true) := by
  intro fuel cs x hx _
  obtain ⟨a, e, _, hw⟩ := DataW.trod_int ht hx
  exact ⟨a, e, hw⟩
theorem reads_bool {t : TypeId} (ht : P.underlying t = some .bool) : Reads enc P w base spare held t Bool (fun cs a => cs = [.bool a]) := by
  intro fuel cs x hx _
  obtain ⟨a, e, _⟩ := DataW.trod_bool ht hx
  exact ⟨a, e⟩
/-- A struct's field. -/
theorem reads_field {t : TypeId} {fs : Array Field} (ht : P.underlying t = some (.struct fs)) {fuel : Nat} {cs : List Value} {x : DataW H × List MemPlace} (h : DataW.trod enc P w base spare held fuel t cs = some x) (hw : (x.1.weights P t).all (· ≤ reachBytes) = true)
    (i : Nat) {f : Field} (hf : fs.toList[i]? = some f) {α : Type} {Q : List Value → α → Prop} (hQ : Reads enc P w base spare held f.type α Q) : ∃ a, Q ((cs.drop f.offset).take (P.cellsOf f.type)) a := by
  obtain ⟨xs, n, _, rfl, hl, hlen, hfs⟩ := DataW.trod_struct ht h
  have hi : i < xs.length := by
    have := (List.getElem?_eq_some_iff.1 hf).1
    rw [Array.length_toList] at this
    omega
  have h1 := hfs i f (by simpa using hf)
  rw [List.getElem?_eq_getElem hi] at h1
  refine hQ n _ _ h1 ?_
  simp only [DataW.weights, ht] at hw
  exact wE_at _ _ hw i _ _ (by rw [List.getElem?_map, hf]; rfl) (by rw [List.getElem?_map, List.getElem?_eq_getElem hi]; rfl)
theorem reads_len {t : TypeId} {fs : Array Field} (ht : P.underlying t = some (.struct fs)) {fuel : Nat} {cs : List Value} {x : DataW H × List MemPlace} (h : DataW.trod enc P w base spare held fuel t cs = some x) : cs.length = P.cellsOf t := by
  obtain ⟨xs, n, _, rfl, hl, hlen, hfs⟩ := DataW.trod_struct ht h
  exact hl
/-- A slice. -/
def SliceAt (w : World) (sz bytes : Nat) {α : Type} (Q : List Value → α → Prop) (cs : List Value) (l : List α) : Prop :=
  ∃ a cap, cs = [.slice a l.length cap] ∧ l.length * bytes ≤ reachBytes ∧ l.length ≤ maxLen ∧
    ∀ i (h : i < l.length), ∃ b o cs', a = some ⟨b, o, none⟩ ∧ (∀ j, j < sz → w.cell? ⟨b, o + i * sz + j, none⟩ = cs'[j]?) ∧ cs'.length = sz ∧ Q cs' l[i]
theorem reads_slice {t e : TypeId} {sz bytes : Nat} (ht : P.underlying t = some (.slice e)) (hs : P.cellsOf e = sz) (h0 : 0 < sz) (hb : P.bytesOf e = bytes) {α : Type} {Q : List Value → α → Prop} (hQ : Reads enc P w base spare held e α Q) :
    Reads enc P w base spare held t (List α) (SliceAt w sz bytes Q) := by
  intro fuel cs x hx hw
  rcases Deep.open_slice ht hx with ⟨e0, _⟩ | ⟨a', len, cap, m, n, D, Pl, e0, hbb, hle, hm, hmm, hxx, hel⟩
  · exact ⟨[], none, 0, e0, by simp, by simp, fun i hi => by simp at hi⟩
  · have hlm : len ≤ m := by rw [hmm]; split <;> omega
    subst hxx
    simp only [DataW.weights, ht, List.all_cons, List.all_append, Bool.and_eq_true, decide_eq_true_eq] at hw
    obtain ⟨hwl, hwe, _⟩ := hw
    rw [hb] at hwl
    simp only [List.length_map, List.length_range] at hwl
    have key : ∀ i, i < len → ∃ (a : α) (cs' : List Value), (∀ j, j < sz → w.cell? ((a'.add (i * sz)).add j) = cs'[j]?) ∧ cs'.length = sz ∧ Q cs' a := by
      intro i hi
      obtain ⟨cs', q1, q2⟩ := hel i (by omega)
      rw [hs] at q1
      obtain ⟨_, hl, hcell⟩ := World.cells?_some q1
      obtain ⟨a, ha⟩ := hQ _ _ _ q2 (wA_at _ hwe i _ (by simp [hi]))
      exact ⟨a, cs', hcell, hl, ha⟩
    obtain ⟨f, hf⟩ : ∃ f : Nat → Option (α × List Value), ∀ i, i < len → ∃ p, f i = some p ∧ (∀ j, j < sz → w.cell? ((a'.add (i * sz)).add j) = p.2[j]?) ∧ p.2.length = sz ∧ Q p.2 p.1 := by
      classical
      refine ⟨fun i => if h : i < len then some ((key i h).choose, (key i h).choose_spec.choose) else none, fun i hi => ?_⟩
      simp only [dif_pos hi]
      exact ⟨_, rfl, (key i hi).choose_spec.choose_spec⟩
    have hl : ∃ l : List α, l.length = len ∧ ∀ i (h : i < l.length), ∃ p, f i = some p ∧ l[i] = p.1 := by
      clear hel key hwe hwl e0 hx
      have : ∀ k, k ≤ len → ∃ l : List α, l.length = k ∧ ∀ i (h : i < l.length), ∃ p, f i = some p ∧ l[i] = p.1 := by
        intro k
        induction k with
        | zero => intro _; exact ⟨[], rfl, fun i h => by simp at h⟩
        | succ k ih =>
          intro hk
          obtain ⟨l, hl, h⟩ := ih (by omega)
          obtain ⟨p, hp, _⟩ := hf k (by omega)
          refine ⟨l ++ [p.1], by simp [hl], fun i hi => ?_⟩
          by_cases hik : i < l.length
          · obtain ⟨q, hq, e⟩ := h i hik
            exact ⟨q, hq, by rw [List.getElem_append_left hik]; exact e⟩
          · have : i = k := by simp at hi; omega
            subst this
            exact ⟨p, hp, by rw [List.getElem_append_right (by omega)]; simp⟩
      exact this len (Nat.le_refl _)
    obtain ⟨l, hl, hlp⟩ := hl
    have hsp : 0 < len → a'.spot = none := by
      intro hpos
      obtain ⟨p, _, h1, h2, _⟩ := hf 0 hpos
      have h00 := h1 0 h0
      simp only [Nat.zero_mul, Addr.add, if_pos] at h00
      rw [List.getElem?_eq_getElem (by omega)] at h00
      cases hs : a'.spot with
      | none => rfl
      | some q =>
        simp only [World.cell?, hs, Option.isSome_some, if_true] at h00
        split at h00 <;> simp at h00
    refine ⟨l, some a', cap, by rw [hl]; exact e0, ?_, by omega, ?_⟩
    · rw [hl]
      refine Nat.le_trans (Nat.mul_le_mul_right _ ?_) hwl
      omega
    · intro i hi
      obtain ⟨p, hp, e⟩ := hlp i hi
      obtain ⟨p', hp', h1, h2, h3⟩ := hf i (by omega)
      rw [hp] at hp'
      cases hp'
      have hsp := hsp (by omega)
      obtain ⟨b, o, s⟩ := a'
      simp only at hsp
      subst hsp
      refine ⟨b, o, p.2, rfl, fun j hj => ?_, h2, by rw [e]; exact h3⟩
      rw [← h1 j hj]
      congr 1
      unfold Addr.add
      split <;> split <;> simp_all
theorem Reads.open_slice {t : TypeId} {α : Type} {Q : List Value → α → Prop} (hQ : Reads enc P w base spare held t α Q) {v : Value} {d : DataW H} {p : List MemPlace} (h : DataW.Trod enc P w base spare held t v d p) (hw : (d.weights P t).all (· ≤ reachBytes) = true) : ∃ a, Q v.cells.toList a := by
  obtain ⟨fuel, hf⟩ := h
  exact hQ fuel _ _ hf hw
end
end Go.Proofs.Ytigbfgmgdfnhcaa
namespace Go.Proofs.Ytigbfgmgdfnhcaa
open Go.ChangeShapes Go.WideShapes Go.ChangeAt Go.RowKit
section
variable {H : Type} {enc : TypeId × Value → H} {w : World} {base : Nat} {spare : Nat → Bool} {held : Bool}
set_option maxRecDepth 100000 in
theorem reads_set : Reads enc Try.prog w base spare held 61 SetD (fun cs s => cs = [.int .u64 s.a0, .int .u64 s.a1, .int .u64 s.a2, .int .u64 s.a3]) := by
  intro fuel cs x hx _
  obtain ⟨xs, m, _, hx2, hlen, hl, hi⟩ := DataW.trod_array Try.underlying61 hx
  have ce : Try.prog.cellsOf 59 = 1 := by kernel_rfl
  have ct : Try.prog.cellsOf 61 = 4 := by kernel_rfl
  have hcl : cs.length = 4 := by first | (rw [hlen, ct]; done) | omega
  match cs, hcl with
  | [c0, c1, c2, c3], _ =>
    have key : ∀ (i : Nat) (c : Value), i < 4 → ([c0, c1, c2, c3].drop (i * Try.prog.cellsOf 59)).take (Try.prog.cellsOf 59) = [c] → ∃ a, c = .int .u64 a := by
      intro i c h4 hcs
      have hii := hi i h4
      rw [hcs] at hii
      have hlt : i < xs.length := by omega
      rw [List.getElem?_eq_getElem hlt] at hii
      obtain ⟨a, e0, _, wa⟩ := DataW.trod_int Try.underlying59 hii
      simp only [List.cons.injEq, and_true] at e0
      exact ⟨a, e0⟩
    obtain ⟨a0, rfl⟩ := key 0 c0 (by omega) (by rw [ce]; rfl)
    obtain ⟨a1, rfl⟩ := key 1 c1 (by omega) (by rw [ce]; rfl)
    obtain ⟨a2, rfl⟩ := key 2 c2 (by omega) (by rw [ce]; rfl)
    obtain ⟨a3, rfl⟩ := key 3 c3 (by omega) (by rw [ce]; rfl)
    exact ⟨⟨a0, a1, a2, a3⟩, rfl⟩
theorem reads_inst : Reads enc Try.prog w base spare held 63 InstD (fun cs i => cs = instC i) := by
  intro fuel cs x hx hw
  have hl := reads_len Try.underlying63 hx
  obtain ⟨o, h0⟩ := reads_field Try.underlying63 hx hw 0 rfl (reads_int Try.underlying5)
  obtain ⟨c, h1⟩ := reads_field Try.underlying63 hx hw 1 rfl (reads_int Try.underlying5)
  obtain ⟨s, h2⟩ := reads_field Try.underlying63 hx hw 2 rfl reads_set
  obtain ⟨a, h3⟩ := reads_field Try.underlying63 hx hw 3 rfl (reads_int Try.underlying3)
  obtain ⟨b, h4⟩ := reads_field Try.underlying63 hx hw 4 rfl (reads_int Try.underlying3)
  have c8 : Try.prog.cellsOf 63 = 8 := by kernel_rfl
  have c1 : Try.prog.cellsOf 5 = 1 := by kernel_rfl
  have c4 : Try.prog.cellsOf 61 = 4 := by kernel_rfl
  have c2 : Try.prog.cellsOf 3 = 1 := by kernel_rfl
  rw [c8] at hl
  dsimp only at h0 h1 h2 h3 h4
  rw [c1] at h0 h1
  rw [c4] at h2
  rw [c2] at h3 h4
  match cs, hl with
  | [p0, p1, p2, p3, p4, p5, p6, p7], _ =>
    obtain ⟨e0, _⟩ := h0
    obtain ⟨e1, _⟩ := h1
    obtain ⟨e3, _⟩ := h3
    obtain ⟨e4, _⟩ := h4
    simp at e0 e1 h2 e3 e4
    obtain ⟨q2, q3, q4, q5⟩ := h2
    subst e0 e1 q2 q3 q4 q5 e3 e4
    exact ⟨⟨o, c, s, a, b⟩, rfl⟩
theorem reads_prog : Reads enc Try.prog w base spare held 31 ProgD (fun cs p => ∃ ca cc, cs = [.slice ca p.code.length cc, .int .i64 p.rounds, .bool p.fold] ∧ CodeR w ca p.code) := by
  intro fuel cs x hx hw
  have hl := reads_len Try.underlying31 hx
  obtain ⟨l, h0⟩ := reads_field Try.underlying31 hx hw 0 rfl (reads_slice (sz := 8) (bytes := 56) Try.underlying29 (by kernel_rfl) (by decide) (by kernel_rfl) reads_inst)
  obtain ⟨r, h1⟩ := reads_field Try.underlying31 hx hw 1 rfl (reads_int Try.underlying3)
  obtain ⟨b, h2⟩ := reads_field Try.underlying31 hx hw 2 rfl (reads_bool Try.underlying4)
  have c3 : Try.prog.cellsOf 31 = 3 := by kernel_rfl
  have c0 : Try.prog.cellsOf 29 = 1 := by kernel_rfl
  have c1 : Try.prog.cellsOf 3 = 1 := by kernel_rfl
  have c2 : Try.prog.cellsOf 4 = 1 := by kernel_rfl
  rw [c3] at hl
  dsimp only at h0 h1 h2
  rw [c0] at h0
  rw [c1] at h1
  rw [c2] at h2
  match cs, hl with
  | [p0, p1, p2], _ =>
    obtain ⟨ca, cc, e0, _, _, hel⟩ := h0
    obtain ⟨e1, _⟩ := h1
    simp at e0 e1 h2
    subst e0 e1 h2
    refine ⟨⟨l, r, b⟩, ca, cc, rfl, fun k hk => ?_⟩
    obtain ⟨bb, o, cs', rfl, hc, hlen, rfl⟩ := hel k hk
    refine ⟨⟨bb, o, none⟩, rfl, ?_, fun j v hv => ?_⟩
    · have h7 := hc 0 (by decide)
      exact World.block_lt_of_cell? w ⟨bb, o + k * 8 + 0, none⟩ (u := .int .u8 (l[k]).op) (by rw [h7]; rfl)
    · have hj : j < 8 := by
        rcases Nat.lt_or_ge j (instC l[k]).length with h | h
        · exact h
        · rw [List.getElem?_eq_none h] at hv; cases hv
      rw [Addr.add_mid, Addr.add_mid, hc j hj]
      exact hv
end
end Go.Proofs.Ytigbfgmgdfnhcaa
