/- Lemmas that the law's proof stands on, part 4: PatB, PatC. No condition. -/
import Derived.Test.YtigbfgmgdfnhcaaBaseA0
import Derived.Test.YtigbfgmgdfnhcaaBaseA1
import Derived.Test.YtigbfgmgdfnhcaaBaseA2
import Derived.Test.YtigbfgmgdfnhcaaBaseA3
set_option linter.all false
set_option linter.unusedVariables false
set_option linter.unusedSimpArgs false
namespace Go.Proofs.Ytigbfgmgdfnhcaa
open Go.RowKit
def tokC (t : TokD) : Array Value := #[.int .u8 t.sign, .int .u8 t.node.op, .int .u8 t.node.c, .int .u64 t.node.set.a0, .int .u64 t.node.set.a1, .int .u64 t.node.set.a2, .int .u64 t.node.set.a3, .int .i64 t.node.min, .int .i64 t.node.max, .bool t.node.lzy, .int .i64 t.node.n, .slice none 0 0,
  .bool t.non, .int .i64 t.next, .int .u8 t.mode, .int .u8 t.case]
theorem plainL_size (m : Int) : (⟨(plainL m).toArray⟩ : ByteArray).size ≤ 140737488351232 := by
  unfold plainL
  split
  · decide
  · split
    · decide
    · split <;> decide
theorem slash_new {w w4 : World} {rb : Nat} {s : ByteArray} {mode : Int} {R T : Array Value} (kR : w4.heap[w.heap.size]? = some (.cells R 115 (0, 0))) (kT : w4.heap[w.heap.size + 1]? = some (.cells T 115 (0, 0))) (g0 : w4.cell? ⟨rb, 0, none⟩ = some (.string s)) (g2 : w4.cell? ⟨rb, 2, none⟩ = some (.int .u8 mode)) (hB : Below w.heap.size w w4) (hz : w.heap.size + 2 ≤ w4.heap.size) (a0 a1 a2 a3 : Int) :
    ∃ w5, w4.alloc (.cells #[.int .u64 a0, .int .u64 a1, .int .u64 a2, .int .u64 a3] 61) = w5 ∧ w5.heap[w.heap.size]? = some (.cells R 115 (0, 0)) ∧ w5.heap[w.heap.size + 1]? = some (.cells T 115 (0, 0)) ∧ w5.cell? ⟨rb, 0, none⟩ = some (.string s) ∧ w5.cell? ⟨rb, 2, none⟩ = some (.int .u8 mode) ∧ Below w.heap.size w w5 ∧ w.heap.size + 2 ≤ w5.heap.size ∧
      w5.cell? ⟨w4.heap.size, 0, none⟩ = some (.int .u64 a0) ∧ w5.cell? ⟨w4.heap.size, 1, none⟩ = some (.int .u64 a1) ∧ w5.cell? ⟨w4.heap.size, 2, none⟩ = some (.int .u64 a2) ∧ w5.cell? ⟨w4.heap.size, 3, none⟩ = some (.int .u64 a3) := by
  have hU := (Upd.refl (fun _ => False) w4).alloc (.cells #[.int .u64 a0, .int .u64 a1, .int .u64 a2, .int .u64 a3] 61)
  have hn := heap_alloc_new w4 (.cells #[.int .u64 a0, .int .u64 a1, .int .u64 a2, .int .u64 a3] 61)
  exact ⟨_, rfl, hU.heap kR (fun h => h), hU.heap kT (fun h => h), hU.cell g0 (fun h => h), hU.cell g2 (fun h => h), hB.alloc hB.size _, by simp; omega, cell_of hn 0 rfl, cell_of hn 1 rfl, cell_of hn 2 rfl, cell_of hn 3 rfl⟩
set_option maxRecDepth 100000 in
set_option maxHeartbeats 4000000 in
theorem slash_end (s : ByteArray) (rb : Nat) (mode cs : Int) (i : Nat) (w : World) (hs : s.size ≤ 1000) (hi : i ≤ 1000) (h0 : w.cell? ⟨rb, 0, none⟩ = some (.string s)) (h2 : w.cell? ⟨rb, 2, none⟩ = some (.int .u8 mode)) (h6 : w.cell? ⟨rb, 6, none⟩ = some (.int .u8 cs)) (hle : s.size ≤ i + 1) :
    Calls Try.prog 78 #[.pointer (some ⟨rb, 0, none⟩), .int .i64 i] w fun e w' => e = .returned (.tuple #[.agg (tokC ⟨0, .zero, false, i + 2, mode, cs⟩), .bool false]) ∧ Below w.heap.size w w' := by
  have hrb := World.block_lt_of_cell? w _ h0
  simp only at hrb
  have hle2 : (s.size : Int) ≤ (i : Int) + 1 := by omega
  go_enter Try.func78, Try.ntmps78
  go_wp2
  obtain ⟨w1, hw1, hB1, g0, g2, g6, k1, hz1⟩ : ∃ w1, w.alloc (.cells #[.int .u8 0, .int .u8 0, .int .u8 0, .int .u64 0, .int .u64 0, .int .u64 0, .int .u64 0, .int .i64 0, .int .i64 0, .bool false, .int .i64 0, .slice none 0 0, .bool false, .int .i64 0, .int .u8 0, .int .u8 0] 115) = w1 ∧ Below w.heap.size w w1 ∧ w1.cell? ⟨rb, 0, none⟩ = some (.string s) ∧ w1.cell? ⟨rb, 2, none⟩ = some (.int .u8 mode) ∧ w1.cell? ⟨rb, 6, none⟩ = some (.int .u8 cs) ∧ w1.heap[w.heap.size]? = some (.cells #[.int .u8 0, .int .u8 0, .int .u8 0, .int .u64 0, .int .u64 0, .int .u64 0, .int .u64 0, .int .i64 0, .int .i64 0, .bool false, .int .i64 0, .slice none 0 0, .bool false, .int .i64 0, .int .u8 0, .int .u8 0] 115 (0, 0)) ∧ w1.heap.size = w.heap.size + 1 :=
    ⟨_, rfl, (Below.refl _ _).alloc (Nat.le_refl _) _, ((Upd.refl (fun _ => False) w).alloc _).cell h0 (fun h => h), ((Upd.refl (fun _ => False) w).alloc _).cell h2 (fun h => h), ((Upd.refl (fun _ => False) w).alloc _).cell h6 (fun h => h), heap_alloc_new _ _, by simp⟩
  rw [hw1]
  clear hw1 h0 h2 h6
  have hsum : IntKind.i64.wrap ((i : Int) + 2) = (i : Int) + 2 := by unfold IntKind.wrap; simp [IntKind.signed, IntKind.bits]; omega
  refine wp_region_seq (fun v => Upd (fun _ => False) w1 v) (fun i => i != 99) [(0, true), (1, true), (2, true), (3, true), (4, true), (5, true), (6, true), (7, true), (8, true), (9, true), (10, true), (11, true), (12, false), (13, false)] (by exact rfl) (by kernel_rfl) (by intro c a d v w h; cases d <;> exact h) ?_
  have hS : Upd (fun _ => False) w1 w1.drew := (Upd.refl _ _).drew
  iterate 12 (((apply seq_val2 rfl (by rfl); (focus (intro w' hS'; have s2 := hS'.cell g2 (fun h => h); have s6 := hS'.cell g6 (fun h => h); go_simp; (first | done | exact rfl | (rw [if_pos (by omega)]; done)))); (focus exact hS))); (try simp only [Act.put, zzT, zzO, zzS]))
  refine seq_loud2 rfl (fun K hK => ?_)
  go_simp; obtain ⟨w2, hw2, kT, hS2, hz2⟩ : ∃ w2, (w1.alloc (.cells #[.int .u8 0, .int .u8 0, .int .u8 0, .int .u64 0, .int .u64 0, .int .u64 0, .int .u64 0, .int .i64 0, .int .i64 0, .bool false, .int .i64 0, .slice none 0 0, .bool false, .int .i64 0, .int .u8 0, .int .u8 0] 115)).drew = w2 ∧ w2.heap[w.heap.size + 1]? = some (.cells #[.int .u8 0, .int .u8 0, .int .u8 0, .int .u64 0, .int .u64 0, .int .u64 0, .int .u64 0, .int .i64 0, .int .i64 0, .bool false, .int .i64 0, .slice none 0 0, .bool false, .int .i64 0, .int .u8 0, .int .u8 0] 115 (0, 0)) ∧ Upd (fun _ => False) w1 w2 ∧ w2.heap.size = w.heap.size + 2 := ⟨_, rfl, hz1 ▸ heap_alloc_new w1 _, ((Upd.refl (fun _ => False) w1).alloc _).drew, by simp [hz1]⟩; rw [hw2]; clear hS; have hS := hS2; clear hS2 hw2; refine hK _ _ (fun _ => hS) ?_; clear hK K
  (try simp only [Act.put, zzT, zzO, zzS])
  refine seq_loud2 rfl (fun K hK => ?_)
  rw [if_pos (by rfl)]; refine wp_store_blk 115 _ _ rfl _ 0 rfl _ rfl _ #[.int .u8 0, .int .u8 0, .int .u8 0, .int .u64 0, .int .u64 0, .int .u64 0, .int .u64 0, .int .i64 0, .int .i64 0, .bool false, .int .i64 0, .slice none 0 0, .bool false, .int .i64 ((i : Int) + 2), .int .u8 mode, .int .u8 cs] _ kT (zzB rfl) (by kernel_rfl) rfl rfl ?_; intro w3 kT3 hU3 hs3; clear kT; have kT := kT3; have hS3 : Upd (fun _ => False) w1 w3 := hS.then (hU3) (fun k hk e => by omega); clear hS kT3 hU3; have hS := hS3; clear hS3; refine hK _ _ (fun _ => hS) ?_; clear hK K
  (try simp only [Act.put, zzT, zzO, zzS])
  refine seq_nil ?_
  have kR := hS.heap k1 (fun h => h)
  replace g0 := hS.cell g0 (fun h => h)
  replace g2 := hS.cell g2 (fun h => h)
  have hB : Below w.heap.size w w3 := hB1.trans (hS.below (by omega) (fun _ _ h => h))
  have hz : w.heap.size + 2 ≤ w3.heap.size := by omega
  clear hS k1 hB1 hz1 hz2 hs3 g6 hsum
  go_wp2_with (first
    | (go_at_call 92; refine (letter_any2 _ _).mono ?_; rintro e w' ⟨rfl, rfl⟩)
    | (go_at_call 93; refine (rOf_any _ hc0 hc1 _).mono ?_; rintro e w4 ⟨rfl, hb4⟩
       unfold ofV setV
       replace kR := (false_upd2 hb4).heap kR (fun h => h)
       replace kT := (false_upd2 hb4).heap kT (fun h => h)
       replace g0 := (false_upd2 hb4).cell g0 (fun h => h)
       replace g2 := (false_upd2 hb4).cell g2 (fun h => h)
       have hs4 := hb4.size
       replace hB := hB.trans (hb4.mono hB.size)
       replace hz : w.heap.size + 2 ≤ w4.heap.size := by omega
       clear hb4 hs4)
    | (go_at_call_of 79 (Value.string ⟨#[118, 109, 77, 86]⟩)
       obtain ⟨w5, hw5, kR5, kT5, g05, g25, hB5, hz5, d0, d1, d2, d3⟩ := slash_new kR kT g0 g2 hB hz (accJ (isB c) 0 256) (accJ (isB c) 1 256) (accJ (isB c) 2 256) (accJ (isB c) 3 256)
       rw [hw5]
       clear kR kT g0 g2 hB hz hw5
       have kR := kR5
       have kT := kT5
       have g0 := g05
       have g2 := g25
       have hB := hB5
       have hz := hz5
       clear kR5 kT5 g05 g25 hB5 hz5
       refine (in_any _ _ _ (by decide)).mono ?_
       rw [F1.out]
       rintro e w' ⟨rfl, rfl⟩)
    | (go_at_call_of 79 (Value.string ⟨#[94, 36, 46, 42, 91, 126, 43, 61, 63, 123, 40, 41, 124, 60, 62]⟩)
       refine (in_any _ _ _ (by decide)).mono ?_
       rw [F2.out]
       rintro e w' ⟨rfl, rfl⟩)
    | (go_at_call 80; refine (rplain_any _ _).mono ?_; rintro e w' ⟨rfl, rfl⟩)
    | (go_at_call 79
       refine (in_any _ _ _ (plainL_size mode)).mono ?_
       rw [F3.out]
       rintro e w' ⟨rfl, rfl⟩)
    | (go_at_call 18; refine (rIs_any _ _ (by decide) (by decide) _).mono ?_; rintro e w' ⟨rfl, rfl⟩)
    | (with_reducible refine stopSt 113 _ _ rfl ?_; unfold Stop
       refine wpList_store_blk rfl 113 _ _ rfl _ _ rfl _ (by go_simp; first | done | exact rfl) _ _ _ kT (zzB rfl) (by kernel_rfl) rfl (by simp only [spl, Value.cells, zzT, zzO, zzS, Array.toList]; exact rfl) ?_
       intro wn kn hUn hsn
       replace kR := hUn.heap kR (by omega)
       replace kT := kn
       replace g0 := hUn.cell g0 (by show ¬ rb = _; omega)
       replace g2 := hUn.cell g2 (by show ¬ rb = _; omega)
       replace hB := hB.trans (hUn.below (by omega) (fun k hk e => by omega))
       replace hz : w.heap.size + 2 ≤ wn.heap.size := by omega
       clear kn hUn hsn)
    | (with_reducible refine stopSt 4 _ _ rfl ?_; unfold Stop
       refine wpList_store_blk rfl 4 _ _ rfl _ _ rfl _ (by go_simp; first | done | exact rfl) _ _ _ kT (zzB rfl) (by kernel_rfl) rfl (by simp only [spl, Value.cells, zzT, zzO, zzS, Array.toList]; exact rfl) ?_
       intro wn kn hUn hsn
       replace kR := hUn.heap kR (by omega)
       replace kT := kn
       replace g0 := hUn.cell g0 (by show ¬ rb = _; omega)
       replace g2 := hUn.cell g2 (by show ¬ rb = _; omega)
       replace hB := hB.trans (hUn.below (by omega) (fun k hk e => by omega))
       replace hz : w.heap.size + 2 ≤ wn.heap.size := by omega
       clear kn hUn hsn)
    | (with_reducible refine stopSt 5 _ _ rfl ?_; unfold Stop
       refine wpList_store_blk rfl 5 _ _ rfl _ _ rfl _ (by go_simp; first | done | exact rfl) _ _ _ kT (zzB rfl) (by kernel_rfl) rfl (by simp only [spl, Value.cells, zzT, zzO, zzS, Array.toList]; exact rfl) ?_
       intro wn kn hUn hsn
       replace kR := hUn.heap kR (by omega)
       replace kT := kn
       replace g0 := hUn.cell g0 (by show ¬ rb = _; omega)
       replace g2 := hUn.cell g2 (by show ¬ rb = _; omega)
       replace hB := hB.trans (hUn.below (by omega) (fun k hk e => by omega))
       replace hz : w.heap.size + 2 ≤ wn.heap.size := by omega
       clear kn hUn hsn)
    | (with_reducible refine stopSt 3 _ _ rfl ?_; unfold Stop
       refine wpList_store_blk rfl 3 _ _ rfl _ _ rfl _ (by go_simp; first | done | exact rfl) _ _ _ kT (zzB rfl) (by kernel_rfl) rfl (by simp only [spl, Value.cells, zzT, zzO, zzS, Array.toList]; exact rfl) ?_
       intro wn kn hUn hsn
       replace kR := hUn.heap kR (by omega)
       replace kT := kn
       replace g0 := hUn.cell g0 (by show ¬ rb = _; omega)
       replace g2 := hUn.cell g2 (by show ¬ rb = _; omega)
       replace hB := hB.trans (hUn.below (by omega) (fun k hk e => by omega))
       replace hz : w.heap.size + 2 ≤ wn.heap.size := by omega
       clear kn hUn hsn)
    | (with_reducible refine stopLd 115 _ rfl ?_; unfold Stop
       refine wpList_load_row rfl 115 _ rfl _ rfl 115 _ (0, 0) _ kT Try.underlying115 rfl (by kernel_rfl) ?_)
    | (with_reducible refine stopSt 115 _ _ rfl ?_; unfold Stop
       refine wpList_store_blk rfl 115 _ _ rfl _ _ rfl _ (by go_simp; first | done | exact rfl) _ _ _ kR (zzB rfl) (by kernel_rfl) rfl (by simp only [spl, Value.cells, zzT, zzO, zzS, Array.toList]; exact rfl) ?_
       intro wn kn hUn hsn
       replace kT := hUn.heap kT (by omega)
       replace kR := kn
       replace g0 := hUn.cell g0 (by show ¬ rb = _; omega)
       replace g2 := hUn.cell g2 (by show ¬ rb = _; omega)
       replace hB := hB.trans (hUn.below (by omega) (fun k hk e => by omega))
       replace hz : w.heap.size + 2 ≤ wn.heap.size := by omega
       clear kn hUn hsn))
  exact bodyPost_ret (v := .tuple #[.agg _, .bool false]) (results_blk_tmp Try.results78 _ _ w.heap.size 115 _ (0, 0) _ rfl kR Try.underlying115 rfl (by kernel_rfl)) rfl ⟨by simp [tokC, NodeD.zero, SetD.zero], hB⟩
/-- What stands behind a backslash, case by case. -/
def SlashCase (s : ByteArray) (i : Nat) (mode cs c : Int) (T : TokD) (b : Bool) : Prop :=
  ((Hid (inL (⟨#[118, 109, 77, 86]⟩ : ByteArray).data.toList c = true)) ∧ T = ⟨0, .zero, true, i + 2, c, cs⟩ ∧ b = true) ∨
  ((Hid (inL (⟨#[118, 109, 77, 86]⟩ : ByteArray).data.toList c = false)) ∧ ((c == 99) = true) ∧ T = ⟨0, .zero, true, i + 2, mode, 1⟩ ∧ b = true) ∨
  ((Hid (inL (⟨#[118, 109, 77, 86]⟩ : ByteArray).data.toList c = false)) ∧ ((c == 99) = false) ∧ ((c == 67) = true) ∧ T = ⟨0, .zero, true, i + 2, mode, 2⟩ ∧ b = true) ∨
  ((Hid (inL (⟨#[118, 109, 77, 86]⟩ : ByteArray).data.toList c = false)) ∧ ((c == 99) = false) ∧ ((c == 67) = false) ∧ (Hid (inL (⟨#[94, 36, 46, 42, 91, 126, 43, 61, 63, 123, 40, 41, 124, 60, 62]⟩ : ByteArray).data.toList c = true)) ∧ (Hid (inL (⟨(plainL mode).toArray⟩ : ByteArray).data.toList c = true)) ∧ T = ⟨0, { op := 2, c := c }, false, i + 2, mode, cs⟩ ∧ b = true) ∨
  ((Hid (inL (⟨#[118, 109, 77, 86]⟩ : ByteArray).data.toList c = false)) ∧ ((c == 99) = false) ∧ ((c == 67) = false) ∧ (Hid (inL (⟨#[94, 36, 46, 42, 91, 126, 43, 61, 63, 123, 40, 41, 124, 60, 62]⟩ : ByteArray).data.toList c = true)) ∧ (Hid (inL (⟨(plainL mode).toArray⟩ : ByteArray).data.toList c = false)) ∧ T = ⟨c, .zero, false, i + 2, mode, cs⟩ ∧ b = true) ∨
  ((Hid (inL (⟨#[118, 109, 77, 86]⟩ : ByteArray).data.toList c = false)) ∧ ((c == 99) = false) ∧ ((c == 67) = false) ∧ (Hid (inL (⟨#[94, 36, 46, 42, 91, 126, 43, 61, 63, 123, 40, 41, 124, 60, 62]⟩ : ByteArray).data.toList c = false)) ∧ (49 ≤ c) ∧ (c ≤ 57) ∧ T = ⟨0, { op := 9, n := c - 48 }, false, i + 2, mode, cs⟩ ∧ b = true) ∨
  ((Hid (inL (⟨#[118, 109, 77, 86]⟩ : ByteArray).data.toList c = false)) ∧ ((c == 99) = false) ∧ ((c == 67) = false) ∧ (Hid (inL (⟨#[94, 36, 46, 42, 91, 126, 43, 61, 63, 123, 40, 41, 124, 60, 62]⟩ : ByteArray).data.toList c = false)) ∧ (¬ (49 ≤ c ∧ c ≤ 57)) ∧ (knownB (smallI c) = true) ∧ T = ⟨0, { op := 4, set := setJ (isB c) }, false, i + 2, mode, cs⟩ ∧ b = true) ∨
  ((Hid (inL (⟨#[118, 109, 77, 86]⟩ : ByteArray).data.toList c = false)) ∧ ((c == 99) = false) ∧ ((c == 67) = false) ∧ (Hid (inL (⟨#[94, 36, 46, 42, 91, 126, 43, 61, 63, 123, 40, 41, 124, 60, 62]⟩ : ByteArray).data.toList c = false)) ∧ (¬ (49 ≤ c ∧ c ≤ 57)) ∧ (knownB (smallI c) = false) ∧ ((letterF c).2 = true) ∧ T = ⟨0, { op := 2, c := (letterF c).1 }, false, i + 2, mode, cs⟩ ∧ b = true) ∨
  ((Hid (inL (⟨#[118, 109, 77, 86]⟩ : ByteArray).data.toList c = false)) ∧ ((c == 99) = false) ∧ ((c == 67) = false) ∧ (Hid (inL (⟨#[94, 36, 46, 42, 91, 126, 43, 61, 63, 123, 40, 41, 124, 60, 62]⟩ : ByteArray).data.toList c = false)) ∧ (¬ (49 ≤ c ∧ c ≤ 57)) ∧ (knownB (smallI c) = false) ∧ ((letterF c).2 = false) ∧ ((c == 110) = true) ∧ T = ⟨0, { op := 4 }, false, i + 2, mode, cs⟩ ∧ b = true) ∨
  ((Hid (inL (⟨#[118, 109, 77, 86]⟩ : ByteArray).data.toList c = false)) ∧ ((c == 99) = false) ∧ ((c == 67) = false) ∧ (Hid (inL (⟨#[94, 36, 46, 42, 91, 126, 43, 61, 63, 123, 40, 41, 124, 60, 62]⟩ : ByteArray).data.toList c = false)) ∧ (¬ (49 ≤ c ∧ c ≤ 57)) ∧ (knownB (smallI c) = false) ∧ ((letterF c).2 = false) ∧ ((c == 110) = false) ∧ ((c == 122) = true) ∧ ∃ hlt2 : i + 2 < s.size, ((s[i + 2].toNat : Int) = 115) ∧ T = ⟨0, { op := 14 }, false, i + 3, mode, cs⟩ ∧ b = true) ∨
  ((Hid (inL (⟨#[118, 109, 77, 86]⟩ : ByteArray).data.toList c = false)) ∧ ((c == 99) = false) ∧ ((c == 67) = false) ∧ (Hid (inL (⟨#[94, 36, 46, 42, 91, 126, 43, 61, 63, 123, 40, 41, 124, 60, 62]⟩ : ByteArray).data.toList c = false)) ∧ (¬ (49 ≤ c ∧ c ≤ 57)) ∧ (knownB (smallI c) = false) ∧ ((letterF c).2 = false) ∧ ((c == 110) = false) ∧ ((c == 122) = true) ∧ ∃ hlt2 : i + 2 < s.size, ((s[i + 2].toNat : Int) = 101) ∧ T = ⟨0, { op := 15 }, false, i + 3, mode, cs⟩ ∧ b = true) ∨
  ((Hid (inL (⟨#[118, 109, 77, 86]⟩ : ByteArray).data.toList c = false)) ∧ ((c == 99) = false) ∧ ((c == 67) = false) ∧ (Hid (inL (⟨#[94, 36, 46, 42, 91, 126, 43, 61, 63, 123, 40, 41, 124, 60, 62]⟩ : ByteArray).data.toList c = false)) ∧ (¬ (49 ≤ c ∧ c ≤ 57)) ∧ (knownB (smallI c) = false) ∧ ((letterF c).2 = false) ∧ ((c == 110) = false) ∧ ((c == 122) = false) ∧ (isB 119 c = true) ∧ ((c != 95) = true) ∧ T = ⟨0, .zero, false, i + 2, mode, cs⟩ ∧ b = false) ∨
  ((Hid (inL (⟨#[118, 109, 77, 86]⟩ : ByteArray).data.toList c = false)) ∧ ((c == 99) = false) ∧ ((c == 67) = false) ∧ (Hid (inL (⟨#[94, 36, 46, 42, 91, 126, 43, 61, 63, 123, 40, 41, 124, 60, 62]⟩ : ByteArray).data.toList c = false)) ∧ (¬ (49 ≤ c ∧ c ≤ 57)) ∧ (knownB (smallI c) = false) ∧ ((letterF c).2 = false) ∧ ((c == 110) = false) ∧ ((c == 122) = true) ∧ (s.size ≤ i + 2) ∧ (isB 119 c = true) ∧ ((c != 95) = true) ∧ T = ⟨0, .zero, false, i + 2, mode, cs⟩ ∧ b = false) ∨
  ((Hid (inL (⟨#[118, 109, 77, 86]⟩ : ByteArray).data.toList c = false)) ∧ ((c == 99) = false) ∧ ((c == 67) = false) ∧ (Hid (inL (⟨#[94, 36, 46, 42, 91, 126, 43, 61, 63, 123, 40, 41, 124, 60, 62]⟩ : ByteArray).data.toList c = false)) ∧ (¬ (49 ≤ c ∧ c ≤ 57)) ∧ (knownB (smallI c) = false) ∧ ((letterF c).2 = false) ∧ ((c == 110) = false) ∧ ((c == 122) = true) ∧ ∃ hlt2 : i + 2 < s.size, (((s[i + 2].toNat : Int) == 115) = false) ∧ (((s[i + 2].toNat : Int) == 101) = false) ∧ (isB 119 c = true) ∧ ((c != 95) = true) ∧ T = ⟨0, .zero, false, i + 2, mode, cs⟩ ∧ b = false) ∨
  ((Hid (inL (⟨#[118, 109, 77, 86]⟩ : ByteArray).data.toList c = false)) ∧ ((c == 99) = false) ∧ ((c == 67) = false) ∧ (Hid (inL (⟨#[94, 36, 46, 42, 91, 126, 43, 61, 63, 123, 40, 41, 124, 60, 62]⟩ : ByteArray).data.toList c = false)) ∧ (¬ (49 ≤ c ∧ c ≤ 57)) ∧ (knownB (smallI c) = false) ∧ ((letterF c).2 = false) ∧ ((c == 110) = false) ∧ ((c == 122) = false) ∧ (isB 119 c = false) ∧ T = ⟨0, { op := 2, c := c }, false, i + 2, mode, cs⟩ ∧ b = true) ∨
  ((Hid (inL (⟨#[118, 109, 77, 86]⟩ : ByteArray).data.toList c = false)) ∧ ((c == 99) = false) ∧ ((c == 67) = false) ∧ (Hid (inL (⟨#[94, 36, 46, 42, 91, 126, 43, 61, 63, 123, 40, 41, 124, 60, 62]⟩ : ByteArray).data.toList c = false)) ∧ (¬ (49 ≤ c ∧ c ≤ 57)) ∧ (knownB (smallI c) = false) ∧ ((letterF c).2 = false) ∧ ((c == 110) = false) ∧ ((c == 122) = false) ∧ ((c != 95) = false) ∧ T = ⟨0, { op := 2, c := c }, false, i + 2, mode, cs⟩ ∧ b = true)
set_option maxRecDepth 100000 in
set_option maxHeartbeats 60000000 in
theorem slash_in (s : ByteArray) (rb : Nat) (mode cs : Int) (i : Nat) (w : World) (hs : s.size ≤ 1000) (hi : i ≤ 1000) (h0 : w.cell? ⟨rb, 0, none⟩ = some (.string s)) (h2 : w.cell? ⟨rb, 2, none⟩ = some (.int .u8 mode)) (h6 : w.cell? ⟨rb, 6, none⟩ = some (.int .u8 cs)) (hlt : i + 1 < s.size) (c : Int) (hcc : (s[i + 1].toNat : Int) = c) (hc0 : 0 ≤ c) (hc1 : c ≤ 255) (T : TokD) (b : Bool) (hcase : SlashCase s i mode cs c T b) :
    Calls Try.prog 78 #[.pointer (some ⟨rb, 0, none⟩), .int .i64 i] w fun e w' => e = .returned (.tuple #[.agg (tokC T), .bool b]) ∧ Below w.heap.size w w' := by
  have hrb := World.block_lt_of_cell? w _ h0
  simp only at hrb
  have hlt' : ¬ (s.size : Int) ≤ (i : Int) + 1 := by omega
  have HC := Lib.hid hcase
  clear hcase
  go_enter Try.func78, Try.ntmps78
  go_wp2
  obtain ⟨w1, hw1, hB1, g0, g2, g6, k1, hz1⟩ : ∃ w1, w.alloc (.cells #[.int .u8 0, .int .u8 0, .int .u8 0, .int .u64 0, .int .u64 0, .int .u64 0, .int .u64 0, .int .i64 0, .int .i64 0, .bool false, .int .i64 0, .slice none 0 0, .bool false, .int .i64 0, .int .u8 0, .int .u8 0] 115) = w1 ∧ Below w.heap.size w w1 ∧ w1.cell? ⟨rb, 0, none⟩ = some (.string s) ∧ w1.cell? ⟨rb, 2, none⟩ = some (.int .u8 mode) ∧ w1.cell? ⟨rb, 6, none⟩ = some (.int .u8 cs) ∧ w1.heap[w.heap.size]? = some (.cells #[.int .u8 0, .int .u8 0, .int .u8 0, .int .u64 0, .int .u64 0, .int .u64 0, .int .u64 0, .int .i64 0, .int .i64 0, .bool false, .int .i64 0, .slice none 0 0, .bool false, .int .i64 0, .int .u8 0, .int .u8 0] 115 (0, 0)) ∧ w1.heap.size = w.heap.size + 1 :=
    ⟨_, rfl, (Below.refl _ _).alloc (Nat.le_refl _) _, ((Upd.refl (fun _ => False) w).alloc _).cell h0 (fun h => h), ((Upd.refl (fun _ => False) w).alloc _).cell h2 (fun h => h), ((Upd.refl (fun _ => False) w).alloc _).cell h6 (fun h => h), heap_alloc_new _ _, by simp⟩
  rw [hw1]
  clear hw1 h0 h2 h6
  have hsum : IntKind.i64.wrap ((i : Int) + 2) = (i : Int) + 2 := by unfold IntKind.wrap; simp [IntKind.signed, IntKind.bits]; omega
  refine wp_region_seq (fun v => Upd (fun _ => False) w1 v) (fun i => i != 99) [(0, true), (1, true), (2, true), (3, true), (4, true), (5, true), (6, true), (7, true), (8, true), (9, true), (10, true), (11, true), (12, false), (13, false)] (by exact rfl) (by kernel_rfl) (by intro c a d v w h; cases d <;> exact h) ?_
  have hS : Upd (fun _ => False) w1 w1.drew := (Upd.refl _ _).drew
  iterate 12 (((apply seq_val2 rfl (by rfl); (focus (intro w' hS'; have s2 := hS'.cell g2 (fun h => h); have s6 := hS'.cell g6 (fun h => h); go_simp; (first | done | exact rfl | (rw [if_pos (by omega)]; done)))); (focus exact hS))); (try simp only [Act.put, zzT, zzO, zzS]))
  refine seq_loud2 rfl (fun K hK => ?_)
  go_simp; obtain ⟨w2, hw2, kT, hS2, hz2⟩ : ∃ w2, (w1.alloc (.cells #[.int .u8 0, .int .u8 0, .int .u8 0, .int .u64 0, .int .u64 0, .int .u64 0, .int .u64 0, .int .i64 0, .int .i64 0, .bool false, .int .i64 0, .slice none 0 0, .bool false, .int .i64 0, .int .u8 0, .int .u8 0] 115)).drew = w2 ∧ w2.heap[w.heap.size + 1]? = some (.cells #[.int .u8 0, .int .u8 0, .int .u8 0, .int .u64 0, .int .u64 0, .int .u64 0, .int .u64 0, .int .i64 0, .int .i64 0, .bool false, .int .i64 0, .slice none 0 0, .bool false, .int .i64 0, .int .u8 0, .int .u8 0] 115 (0, 0)) ∧ Upd (fun _ => False) w1 w2 ∧ w2.heap.size = w.heap.size + 2 := ⟨_, rfl, hz1 ▸ heap_alloc_new w1 _, ((Upd.refl (fun _ => False) w1).alloc _).drew, by simp [hz1]⟩; rw [hw2]; clear hS; have hS := hS2; clear hS2 hw2; refine hK _ _ (fun _ => hS) ?_; clear hK K
  (try simp only [Act.put, zzT, zzO, zzS])
  refine seq_loud2 rfl (fun K hK => ?_)
  rw [if_pos (by rfl)]; refine wp_store_blk 115 _ _ rfl _ 0 rfl _ rfl _ #[.int .u8 0, .int .u8 0, .int .u8 0, .int .u64 0, .int .u64 0, .int .u64 0, .int .u64 0, .int .i64 0, .int .i64 0, .bool false, .int .i64 0, .slice none 0 0, .bool false, .int .i64 ((i : Int) + 2), .int .u8 mode, .int .u8 cs] _ kT (zzB rfl) (by kernel_rfl) rfl rfl ?_; intro w3 kT3 hU3 hs3; clear kT; have kT := kT3; have hS3 : Upd (fun _ => False) w1 w3 := hS.then (hU3) (fun k hk e => by omega); clear hS kT3 hU3; have hS := hS3; clear hS3; refine hK _ _ (fun _ => hS) ?_; clear hK K
  (try simp only [Act.put, zzT, zzO, zzS])
  refine seq_nil ?_
  have kR := hS.heap k1 (fun h => h)
  replace g0 := hS.cell g0 (fun h => h)
  replace g2 := hS.cell g2 (fun h => h)
  have hB : Below w.heap.size w w3 := hB1.trans (hS.below (by omega) (fun _ _ h => h))
  have hz : w.heap.size + 2 ≤ w3.heap.size := by omega
  clear hS k1 hB1 hz1 hz2 hs3 g6 hsum
  have hcase := HC.out
  clear HC
  unfold SlashCase at hcase
  rcases hcase with ⟨F1, rfl, rfl⟩ | ⟨F1, q99, rfl, rfl⟩ | ⟨F1, q99, q67, rfl, rfl⟩ | ⟨F1, q99, q67, F2, F3, rfl, rfl⟩ | ⟨F1, q99, q67, F2, F3, rfl, rfl⟩ | ⟨F1, q99, q67, F2, qd0, qd1, rfl, rfl⟩ | ⟨F1, q99, q67, F2, qd, qk, rfl, rfl⟩ | ⟨F1, q99, q67, F2, qd, qk, ql, rfl, rfl⟩ | ⟨F1, q99, q67, F2, qd, qk, ql, q110, rfl, rfl⟩ | ⟨F1, q99, q67, F2, qd, qk, ql, q110, q122, hlt2, hdd, rfl, rfl⟩ | ⟨F1, q99, q67, F2, qd, qk, ql, q110, q122, hlt2, hdd, rfl, rfl⟩ | ⟨F1, q99, q67, F2, qd, qk, ql, q110, q122, qi, q95, rfl, rfl⟩ | ⟨F1, q99, q67, F2, qd, qk, ql, q110, q122, hlt2, qi, q95, rfl, rfl⟩ | ⟨F1, q99, q67, F2, qd, qk, ql, q110, q122, hlt2, hd1, hd2, qi, q95, rfl, rfl⟩ | ⟨F1, q99, q67, F2, qd, qk, ql, q110, q122, qi, rfl, rfl⟩ | ⟨F1, q99, q67, F2, qd, qk, ql, q110, q122, q95, rfl, rfl⟩
  all_goals
    have hx1 : (i : Int) + 2 < (s.size : Int) ∨ ¬ (i : Int) + 2 < (s.size : Int) := by omega
    try (have qd2 : c < 49 ∨ 57 < c := by omega)
    try (have hlt2' : (i : Int) + 2 < (s.size : Int) := by omega)
    try (have hlt2' : ¬ (i : Int) + 2 < (s.size : Int) := by omega)
    go_wp2_with (first
      | (go_at_call 92; refine (letter_any2 _ _).mono ?_; rintro e w' ⟨rfl, rfl⟩)
      | (go_at_call 93; refine (rOf_any _ hc0 hc1 _).mono ?_; rintro e w4 ⟨rfl, hb4⟩
         unfold ofV setV
         replace kR := (false_upd2 hb4).heap kR (fun h => h)
         replace kT := (false_upd2 hb4).heap kT (fun h => h)
         replace g0 := (false_upd2 hb4).cell g0 (fun h => h)
         replace g2 := (false_upd2 hb4).cell g2 (fun h => h)
         have hs4 := hb4.size
         replace hB := hB.trans (hb4.mono hB.size)
         replace hz : w.heap.size + 2 ≤ w4.heap.size := by omega
         clear hb4 hs4)
      | (go_at_call_of 79 (Value.string ⟨#[118, 109, 77, 86]⟩)
         obtain ⟨w5, hw5, kR5, kT5, g05, g25, hB5, hz5, d0, d1, d2, d3⟩ := slash_new kR kT g0 g2 hB hz (accJ (isB c) 0 256) (accJ (isB c) 1 256) (accJ (isB c) 2 256) (accJ (isB c) 3 256)
         rw [hw5]
         clear kR kT g0 g2 hB hz hw5
         have kR := kR5
         have kT := kT5
         have g0 := g05
         have g2 := g25
         have hB := hB5
         have hz := hz5
         clear kR5 kT5 g05 g25 hB5 hz5
         refine (in_any _ _ _ (by decide)).mono ?_
         rw [F1.out]
         rintro e w' ⟨rfl, rfl⟩)
      | (go_at_call_of 79 (Value.string ⟨#[94, 36, 46, 42, 91, 126, 43, 61, 63, 123, 40, 41, 124, 60, 62]⟩)
         refine (in_any _ _ _ (by decide)).mono ?_
         rw [F2.out]
         rintro e w' ⟨rfl, rfl⟩)
      | (go_at_call 80; refine (rplain_any _ _).mono ?_; rintro e w' ⟨rfl, rfl⟩)
      | (go_at_call 79
         refine (in_any _ _ _ (plainL_size mode)).mono ?_
         rw [F3.out]
         rintro e w' ⟨rfl, rfl⟩)
      | (go_at_call 18; refine (rIs_any _ _ (by decide) (by decide) _).mono ?_; rintro e w' ⟨rfl, rfl⟩)
      | (with_reducible refine stopSt 113 _ _ rfl ?_; unfold Stop
         refine wpList_store_blk rfl 113 _ _ rfl _ _ rfl _ (by go_simp; first | done | exact rfl) _ _ _ kT (zzB rfl) (by kernel_rfl) rfl (by simp only [spl, Value.cells, zzT, zzO, zzS, Array.toList]; exact rfl) ?_
         intro wn kn hUn hsn
         replace kR := hUn.heap kR (by omega)
         replace kT := kn
         replace g0 := hUn.cell g0 (by show ¬ rb = _; omega)
         replace g2 := hUn.cell g2 (by show ¬ rb = _; omega)
         replace hB := hB.trans (hUn.below (by omega) (fun k hk e => by omega))
         replace hz : w.heap.size + 2 ≤ wn.heap.size := by omega
         clear kn hUn hsn)
      | (with_reducible refine stopSt 4 _ _ rfl ?_; unfold Stop
         refine wpList_store_blk rfl 4 _ _ rfl _ _ rfl _ (by go_simp; first | done | exact rfl) _ _ _ kT (zzB rfl) (by kernel_rfl) rfl (by simp only [spl, Value.cells, zzT, zzO, zzS, Array.toList]; exact rfl) ?_
         intro wn kn hUn hsn
         replace kR := hUn.heap kR (by omega)
         replace kT := kn
         replace g0 := hUn.cell g0 (by show ¬ rb = _; omega)
         replace g2 := hUn.cell g2 (by show ¬ rb = _; omega)
         replace hB := hB.trans (hUn.below (by omega) (fun k hk e => by omega))
         replace hz : w.heap.size + 2 ≤ wn.heap.size := by omega
         clear kn hUn hsn)
      | (with_reducible refine stopSt 5 _ _ rfl ?_; unfold Stop
         refine wpList_store_blk rfl 5 _ _ rfl _ _ rfl _ (by go_simp; first | done | exact rfl) _ _ _ kT (zzB rfl) (by kernel_rfl) rfl (by simp only [spl, Value.cells, zzT, zzO, zzS, Array.toList]; exact rfl) ?_
         intro wn kn hUn hsn
         replace kR := hUn.heap kR (by omega)
         replace kT := kn
         replace g0 := hUn.cell g0 (by show ¬ rb = _; omega)
         replace g2 := hUn.cell g2 (by show ¬ rb = _; omega)
         replace hB := hB.trans (hUn.below (by omega) (fun k hk e => by omega))
         replace hz : w.heap.size + 2 ≤ wn.heap.size := by omega
         clear kn hUn hsn)
      | (with_reducible refine stopSt 3 _ _ rfl ?_; unfold Stop
         refine wpList_store_blk rfl 3 _ _ rfl _ _ rfl _ (by go_simp; first | done | exact rfl) _ _ _ kT (zzB rfl) (by kernel_rfl) rfl (by simp only [spl, Value.cells, zzT, zzO, zzS, Array.toList]; exact rfl) ?_
         intro wn kn hUn hsn
         replace kR := hUn.heap kR (by omega)
         replace kT := kn
         replace g0 := hUn.cell g0 (by show ¬ rb = _; omega)
         replace g2 := hUn.cell g2 (by show ¬ rb = _; omega)
         replace hB := hB.trans (hUn.below (by omega) (fun k hk e => by omega))
         replace hz : w.heap.size + 2 ≤ wn.heap.size := by omega
         clear kn hUn hsn)
      | (with_reducible refine stopLd 115 _ rfl ?_; unfold Stop
         refine wpList_load_row rfl 115 _ rfl _ rfl 115 _ (0, 0) _ kT Try.underlying115 rfl (by kernel_rfl) ?_)
      | (with_reducible refine stopSt 115 _ _ rfl ?_; unfold Stop
         refine wpList_store_blk rfl 115 _ _ rfl _ _ rfl _ (by go_simp; first | done | exact rfl) _ _ _ kR (zzB rfl) (by kernel_rfl) rfl (by simp only [spl, Value.cells, zzT, zzO, zzS, Array.toList]; exact rfl) ?_
         intro wn kn hUn hsn
         replace kT := hUn.heap kT (by omega)
         replace kR := kn
         replace g0 := hUn.cell g0 (by show ¬ rb = _; omega)
         replace g2 := hUn.cell g2 (by show ¬ rb = _; omega)
         replace hB := hB.trans (hUn.below (by omega) (fun k hk e => by omega))
         replace hz : w.heap.size + 2 ≤ wn.heap.size := by omega
         clear kn hUn hsn))
    all_goals first
      | (exfalso; omega)
      | (exact bodyPost_ret (v := .tuple #[.agg _, .bool _]) (results_blk_tmp Try.results78 _ _ w.heap.size 115 _ (0, 0) _ rfl kR Try.underlying115 rfl (by kernel_rfl)) rfl ⟨by simp [tokC, NodeD.zero, SetD.zero, setJ], hB⟩)
end Go.Proofs.Ytigbfgmgdfnhcaa
namespace Go.Proofs.Ytigbfgmgdfnhcaa
open Go.RowKit
theorem bt_false {b : Bool} (h : ¬ b = true) : b = false := by simpa using h
theorem slash_case (s : ByteArray) (i : Nat) (mode cs : Int) (hlt : i + 1 < s.size) : SlashCase s i mode cs (bl s.data.toList (i + 1)) (slashF s.data.toList mode cs i).1 (slashF s.data.toList mode cs i).2 := by
  have hl : s.data.toList.length = s.size := by simp
  have hd : ∀ (h : i + 2 < s.size), (s[i + 2].toNat : Int) = bl s.data.toList (i + 2) := fun h => bl_at h
  unfold SlashCase slashF
  rw [hl]
  generalize bl s.data.toList (i + 2) = d at *
  generalize bl s.data.toList (i + 1) = c at *
  rw [if_neg (by omega)]
  by_cases h1 : inL [118, 109, 77, 86] c = true
  · rw [if_pos h1]
    exact .inl ⟨Lib.hid h1, rfl, rfl⟩
  have n1 := bt_false h1
  rw [if_neg h1]
  clear h1
  by_cases h99 : c = 99
  · rw [if_pos h99]
    exact .inr (.inl ⟨Lib.hid n1, by simpa using h99, rfl, rfl⟩)
  have n99 : (c == 99) = false := by simpa using h99
  rw [if_neg h99]
  clear h99
  by_cases h67 : c = 67
  · rw [if_pos h67]
    exact .inr (.inr (.inl ⟨Lib.hid n1, n99, by simpa using h67, rfl, rfl⟩))
  have n67 : (c == 67) = false := by simpa using h67
  rw [if_neg h67]
  clear h67
  by_cases h2 : inL signsL c = true
  · rw [if_pos h2]
    by_cases h3 : inL (plainL mode) c = true
    · rw [if_pos h3]
      exact .inr (.inr (.inr (.inl ⟨Lib.hid n1, n99, n67, Lib.hid h2, Lib.hid h3, rfl, rfl⟩)))
    · rw [if_neg h3]
      exact .inr (.inr (.inr (.inr (.inl ⟨Lib.hid n1, n99, n67, Lib.hid h2, Lib.hid (bt_false h3), rfl, rfl⟩))))
  have n2 := bt_false h2
  rw [if_neg h2]
  clear h2
  by_cases hd9 : 49 ≤ c ∧ c ≤ 57
  · rw [if_pos hd9]
    exact .inr (.inr (.inr (.inr (.inr (.inl ⟨Lib.hid n1, n99, n67, Lib.hid n2, hd9.1, hd9.2, rfl, rfl⟩)))))
  have nd := hd9
  rw [if_neg hd9]
  clear hd9
  by_cases hk : knownB (smallI c) = true
  · rw [if_pos hk]
    exact .inr (.inr (.inr (.inr (.inr (.inr (.inl ⟨Lib.hid n1, n99, n67, Lib.hid n2, nd, hk, rfl, rfl⟩))))))
  have nk := bt_false hk
  rw [if_neg hk]
  clear hk
  by_cases hll : (letterF c).2 = true
  · rw [if_pos hll]
    exact .inr (.inr (.inr (.inr (.inr (.inr (.inr (.inl ⟨Lib.hid n1, n99, n67, Lib.hid n2, nd, nk, hll, rfl, rfl⟩)))))))
  have nl := bt_false hll
  rw [if_neg hll]
  clear hll
  by_cases h110 : c = 110
  · rw [if_pos h110]
    exact .inr (.inr (.inr (.inr (.inr (.inr (.inr (.inr (.inl ⟨Lib.hid n1, n99, n67, Lib.hid n2, nd, nk, nl, by simpa using h110, rfl, rfl⟩))))))))
  have n110 : (c == 110) = false := by simpa using h110
  rw [if_neg h110]
  clear h110
  by_cases h122 : c = 122
  · have e122 : (c == 122) = true := by simpa using h122
    have qi : isB 119 c = true := by subst h122; decide
    have q95 : (c != 95) = true := by subst h122; decide
    have hne : ¬ c = 95 := by omega
    by_cases hlt2 : i + 2 < s.size
    · have hdd := hd hlt2
      by_cases h115 : d = 115
      · rw [if_pos ⟨h122, hlt2, h115⟩]
        rw [h115] at hdd
        exact .inr (.inr (.inr (.inr (.inr (.inr (.inr (.inr (.inr (.inl ⟨Lib.hid n1, n99, n67, Lib.hid n2, nd, nk, nl, n110, e122, hlt2, hdd, rfl, rfl⟩)))))))))
      · rw [if_neg (fun h => h115 h.2.2)]
        by_cases h101 : d = 101
        · rw [if_pos ⟨h122, hlt2, h101⟩]
          rw [h101] at hdd
          exact .inr (.inr (.inr (.inr (.inr (.inr (.inr (.inr (.inr (.inr (.inl ⟨Lib.hid n1, n99, n67, Lib.hid n2, nd, nk, nl, n110, e122, hlt2, hdd, rfl, rfl⟩))))))))))
        · rw [if_neg (fun h => h101 h.2.2), if_pos ⟨qi, hne⟩]
          have hd1 : ((s[i + 2].toNat : Int) == 115) = false := by rw [hdd]; simpa using h115
          have hd2 : ((s[i + 2].toNat : Int) == 101) = false := by rw [hdd]; simpa using h101
          exact .inr (.inr (.inr (.inr (.inr (.inr (.inr (.inr (.inr (.inr (.inr (.inr (.inr (.inl ⟨Lib.hid n1, n99, n67, Lib.hid n2, nd, nk, nl, n110, e122, hlt2, hd1, hd2, qi, q95, rfl, rfl⟩)))))))))))))
    · rw [if_neg (fun h => hlt2 h.2.1), if_neg (fun h => hlt2 h.2.1), if_pos ⟨qi, hne⟩]
      have hlt3 : s.size ≤ i + 2 := by omega
      exact .inr (.inr (.inr (.inr (.inr (.inr (.inr (.inr (.inr (.inr (.inr (.inr (.inl ⟨Lib.hid n1, n99, n67, Lib.hid n2, nd, nk, nl, n110, e122, hlt3, qi, q95, rfl, rfl⟩))))))))))))
  · have e122 : (c == 122) = false := by simpa using h122
    rw [if_neg (fun h => h122 h.1), if_neg (fun h => h122 h.1)]
    by_cases hi : isB 119 c = true
    · by_cases h95 : c = 95
      · rw [if_neg (fun h => h.2 h95)]
        have q95 : (c != 95) = false := by simpa using h95
        exact .inr (.inr (.inr (.inr (.inr (.inr (.inr (.inr (.inr (.inr (.inr (.inr (.inr (.inr (.inr (⟨Lib.hid n1, n99, n67, Lib.hid n2, nd, nk, nl, n110, e122, q95, rfl, rfl⟩)))))))))))))))
      · rw [if_pos ⟨hi, h95⟩]
        have q95 : (c != 95) = true := by simpa using h95
        exact .inr (.inr (.inr (.inr (.inr (.inr (.inr (.inr (.inr (.inr (.inr (.inl ⟨Lib.hid n1, n99, n67, Lib.hid n2, nd, nk, nl, n110, e122, hi, q95, rfl, rfl⟩)))))))))))
    · rw [if_neg (fun h => hi h.1)]
      exact .inr (.inr (.inr (.inr (.inr (.inr (.inr (.inr (.inr (.inr (.inr (.inr (.inr (.inr (.inl ⟨Lib.hid n1, n99, n67, Lib.hid n2, nd, nk, nl, n110, e122, bt_false hi, rfl, rfl⟩))))))))))))))
theorem slash_any (s : ByteArray) (rb : Nat) (mode cs : Int) (i : Nat) (w : World) (hs : s.size ≤ 1000) (hi : i ≤ 1000) (h0 : w.cell? ⟨rb, 0, none⟩ = some (.string s)) (h2 : w.cell? ⟨rb, 2, none⟩ = some (.int .u8 mode)) (h6 : w.cell? ⟨rb, 6, none⟩ = some (.int .u8 cs)) :
    Calls Try.prog 78 #[.pointer (some ⟨rb, 0, none⟩), .int .i64 i] w fun e w' => e = .returned (.tuple #[.agg (tokC (slashF s.data.toList mode cs i).1), .bool (slashF s.data.toList mode cs i).2]) ∧ Below w.heap.size w w' := by
  by_cases hlt : i + 1 < s.size
  · have hr := bl_rng s.data.toList (i + 1)
    exact slash_in s rb mode cs i w hs hi h0 h2 h6 hlt _ (bl_at hlt) hr.1 hr.2 _ _ (slash_case s i mode cs hlt)
  · have e : slashF s.data.toList mode cs i = (⟨0, .zero, false, i + 2, mode, cs⟩, false) := by
      unfold slashF
      rw [if_pos (by simp; omega)]
    rw [e]
    exact slash_end s rb mode cs i w hs hi h0 h2 h6 (by omega)
end Go.Proofs.Ytigbfgmgdfnhcaa
