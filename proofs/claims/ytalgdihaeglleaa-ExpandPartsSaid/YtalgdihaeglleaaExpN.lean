/- A piece appended to pieces; the walk of the law ExpandSplits. -/
import Derived.Test.YtalgdihaeglleaaExpL
import Derived.Deep.AppendLies
namespace Go.Proofs.Ytalgdihaeglleaa
open Go.RowKit

theorem info_tm : (Try.prog.info? 29).map (fun i => (i.zero, i.size, i.bytes)) = some (some (.agg #[.int .u8 0, .string ⟨#[]⟩, .int .i64 0, .int .u8 0]), 4, 40) := by kernel_rfl

theorem tmCells_snoc (ts : List Tm) (t : Tm) : tmCells ts ++ t.cells = tmCells (ts ++ [t]) := by simp [tmCells, List.flatMap_append]

theorem wpList_append_tm {ops : Array Oper} {rest : List Oper} {o : Oper} {a : Act} {w : World} {Q : Exit → Act → World → Prop} {v : Value} {ts : List Tm} {base : Nat} (hgd : o.guard = none) (s x : Operand)
    (ho : o.op = .call { callee := .builtin .append, args := #[s, x], argTypes := #[30, 30] }) (t : Tm) (hs : a.eval s = v) (hown : w.ownsRow base 29 4 v ts.length (tmCells ts))
    (b c : Nat) (hx : a.eval x = .slice (some ⟨b, 0, none⟩) 1 c) (hc : w.heap[b]? = some (.cells t.cells.toArray 29 (0, 0))) (hl : ts.length ≤ 1000) (hbase : base ≤ w.heap.size)
    (h : ∀ g cap w', w'.ownsRow base 29 4 (.slice (some ⟨g, 0, none⟩) (ts.length + 1) cap) (ts ++ [t]).length (tmCells (ts ++ [t])) → Below base w w' → wpList Try.prog ops Q rest (a.put o.dst (.slice (some ⟨g, 0, none⟩) (ts.length + 1) cap)) w') :
    wpList Try.prog ops Q (o :: rest) a w := by
  obtain ⟨i0, hi, hz0, hz1, hz2⟩ := info_parts info_tm
  refine wpList_append_lies w hgd s x 30 ho base 29 i0 _ 4 40 Try.underlying30 hi hz0 hz1 hz2 rfl (by decide) v ts.length (tmCells ts) hs hown ⟨b, 0, none⟩ 1 c t.cells hx rfl ?_ ?_ (by decide) (by unfold maxLen; omega) (by omega) hbase _ rfl ?_
  · intro j u hj
    have hadd : (Addr.add ⟨b, 0, none⟩ j) = ⟨b, j, none⟩ := by unfold Addr.add; split <;> simp_all
    rw [hadd]
    exact cell_of hc j (by simpa using hj)
  · intro u hu
    simp only [Tm.cells, List.mem_cons, List.not_mem_nil, or_false] at hu
    rcases hu with rfl | rfl | rfl | rfl <;> simp [Value.oneCell']
  · intro g cap w' hO hg _ _
    refine h g cap w' ?_ ?_
    · rw [← tmCells_snoc]
      simpa using hO
    · exact (Upd.grown (F := fun k => v.ownBlock = some k) (Upd.refl _ w) hg (fun k _ e => e)).below hbase (fun k hk e => by have := (hown.lt k e).1; omega)

def splitT (s : ByteArray) : Tm := ⟨3, s, 0, 0⟩
def kindT (k : Int) (s : ByteArray) : Tm := ⟨k, s, 0, 0⟩
/-- The loop of ExpandSplits. -/
structure SplitsRel (w : World) (s : ByteArray) (k : Nat) (lv : Value) (ts : List Tm) (wr : World) : Prop where
  own : wr.ownsRow w.heap.size 29 4 lv ts.length (tmCells ts)
  below : From w wr
  len : ts.length ≤ 2 * k
  splits : splitsOf ts = k
  kinds : ∀ t ∈ ts, t.kind ≠ 1 ∧ t.kind ≠ 2 ∧ t.kind ≠ 4
  text : ∀ t ∈ ts, t.text.size ≤ 1000

theorem SplitsRel.one {w wr w1 : World} {s : ByteArray} {k : Nat} {lv lv1 : Value} {ts : List Tm} (h : SplitsRel w s k lv ts wr) (hs : s.size ≤ 100) (hO : w1.ownsRow w.heap.size 29 4 lv1 (ts ++ [splitT s]).length (tmCells (ts ++ [splitT s]))) (hB : Below w.heap.size w w1) :
    SplitsRel w s (k + 1) lv1 (ts ++ [splitT s]) w1 := by
  refine ⟨hO, hB, by simp; have := h.len; omega, ?_, ?_, ?_⟩
  · have := h.splits
    simp only [splitsOf, List.countP_append, List.countP_singleton] at this ⊢
    simp [this, splitT]
  · intro t ht
    rcases List.mem_append.1 ht with h' | h'
    · exact h.kinds t h'
    · simp only [List.mem_singleton] at h'
      subst h'
      simp [splitT]
  · intro t ht
    rcases List.mem_append.1 ht with h' | h'
    · exact h.text t h'
    · simp only [List.mem_singleton] at h'
      subst h'
      show s.size ≤ 1000
      omega
theorem SplitsRel.two {w wr w1 : World} {s : ByteArray} {k : Nat} {lv lv1 : Value} {ts : List Tm} {kd : Int} (h : SplitsRel w s k lv ts wr) (hs : s.size ≤ 100) (hk : 4 < kd ∨ kd = 0)
    (hO : w1.ownsRow w.heap.size 29 4 lv1 (ts ++ [splitT s] ++ [kindT kd s]).length (tmCells (ts ++ [splitT s] ++ [kindT kd s]))) (hB : Below w.heap.size w w1) :
    SplitsRel w s (k + 1) lv1 (ts ++ [splitT s] ++ [kindT kd s]) w1 := by
  refine ⟨hO, hB, by simp; have := h.len; omega, ?_, ?_, ?_⟩
  · have := h.splits
    have h3 : ¬ kd = 3 := by omega
    simp only [splitsOf, List.countP_append, List.countP_singleton] at this ⊢
    simp [this, h3, splitT, kindT]
  · intro t ht
    simp only [List.mem_append, List.mem_singleton] at ht
    rcases ht with (h' | rfl) | rfl
    · exact h.kinds t h'
    · simp [splitT]
    · simp only [kindT]; omega
  · intro t ht
    simp only [List.mem_append, List.mem_singleton] at ht
    rcases ht with (h' | rfl) | rfl
    · exact h.text t h'
    · show s.size ≤ 1000; omega
    · show s.size ≤ 1000; omega

set_option maxRecDepth 100000 in
set_option maxHeartbeats 4000000 in
theorem expandSplits_in (n : Int) (n0 : 0 ≤ n) (n1 : n ≤ 255) (kd : Int) (kd0 : 0 ≤ kd) (kd1 : kd ≤ 255) (s : ByteArray) (hl : (s.size : Int) ≤ 100) (w : World) :
    Calls Try.prog 4 #[.int .u8 n, .int .u8 kd, .string s] w fun e w' => e = .returned (.bool true) ∧ Below w.heap.size w w' := by
  obtain ⟨c0, hc0⟩ : ∃ c0, matchV 0 0 (fun _ => 0) (fun _ => 0) = c0 := ⟨_, rfl⟩
  have hm0 : IsMatch c0 (fun _ => 0) (fun _ => 0) := hc0 ▸ matchV_is _ _ _ _
  have Hc0 := Lib.hid hc0
  clear hc0
  obtain ⟨N, hN, eN⟩ : ∃ N : Nat, N < 50 ∧ n % 50 = (N : Int) := ⟨(n % 50).toNat, by omega, by omega⟩
  go_enter Try.func4, Try.ntmps4
  go_wp2_with (go_at_call 8; refine (known_any _).mono ?_; rintro e w1 ⟨rfl, hq⟩)
  go_loopw [7, 8] (fun l i wr => ∃ (k : Nat) (lv : Value) (ts : List Tm), k ≤ N ∧ i = .int .i64 k ∧ l = lv ∧ SplitsRel w s k lv ts wr) (fun l i _ => N - (intOf i).toNat)
  case atStart => exact ⟨0, _, [], by omega, rfl, rfl, ⟨World.ownsRow_nil _ _ _ _, hq, by simp, rfl, by simp, by simp⟩⟩
  case round =>
    obtain ⟨k, lv, ts, hk, rfl, rfl, hR⟩ := hrel
    have HR := Lib.hid hR
    have hlen : ts.length ≤ 1000 := by have := hR.len; omega
    have hO := hR.own
    have hB : Below w.heap.size w wr := hR.below
    clear hR
    by_cases hlt : k < N
    · by_cases hkd : 4 < kd ∨ kd = 0
      · rcases hkd with hk4 | hk4
        · go_wp2_with (first | (rw [eN]) | (at_builtin; first
            | (refine wpList_append_tm rfl _ _ rfl (splitT s) rfl (hO.alloc _) wr.heap.size 1 rfl (heap_alloc_new _ _) hlen (by have := hB.size; simp; omega) ?_
               intro g cap w2 hO2 hB2
               have hB3 := ((hB.alloc (hB.size) _).trans hB2)
               have hlen2 : (ts ++ [splitT s]).length ≤ 1000 := by have := HR.out.len; simp; omega
               clear hB2)
            | (refine wpList_append_tm rfl _ _ rfl (kindT kd s) rfl (hO2.alloc _) w2.heap.size 1 rfl (heap_alloc_new _ _) hlen2 (by have := hB3.size; simp; omega) ?_
               intro g2 cap2 w3 hO3 hB4
               have hB5 := ((hB3.alloc (hB3.size) _).trans hB4)
               rw [show (Value.slice (some ⟨g2, 0, none⟩) ((ts ++ [splitT s]).length + 1) cap2) = .slice (some ⟨g2, 0, none⟩) (ts.length + 1 + 1) cap2 by simp] at hO3
               clear hB4)))
          go_roundw
          case rel => exact ⟨k + 1, _, _, by omega, by go_num, rfl, HR.out.two (by omega) (.inl hk4) hO3 hB5⟩
          case measure => simp [intOf]; omega
        · subst hk4
          go_wp2_with (first | (rw [eN]) | (at_builtin; first
            | (refine wpList_append_tm rfl _ _ rfl (splitT s) rfl (hO.alloc _) wr.heap.size 1 rfl (heap_alloc_new _ _) hlen (by have := hB.size; simp; omega) ?_
               intro g cap w2 hO2 hB2
               have hB3 := ((hB.alloc (hB.size) _).trans hB2)
               have hlen2 : (ts ++ [splitT s]).length ≤ 1000 := by have := HR.out.len; simp; omega
               clear hB2)
            | (refine wpList_append_tm rfl _ _ rfl (kindT 0 s) rfl (hO2.alloc _) w2.heap.size 1 rfl (heap_alloc_new _ _) hlen2 (by have := hB3.size; simp; omega) ?_
               intro g2 cap2 w3 hO3 hB4
               have hB5 := ((hB3.alloc (hB3.size) _).trans hB4)
               rw [show (Value.slice (some ⟨g2, 0, none⟩) ((ts ++ [splitT s]).length + 1) cap2) = .slice (some ⟨g2, 0, none⟩) (ts.length + 1 + 1) cap2 by simp] at hO3
               clear hB4)))
          go_roundw
          case rel => exact ⟨k + 1, _, _, by omega, by go_num, rfl, HR.out.two (by omega) (.inr rfl) hO3 hB5⟩
          case measure => simp [intOf]; omega
      · have hk1 : kd ≤ 4 := by omega
        have hk2 : (kd == 0) = false := by simp; omega
        go_wp2_with (first | (rw [eN]) | (at_builtin; first
          | (refine wpList_append_tm rfl _ _ rfl (splitT s) rfl (hO.alloc _) wr.heap.size 1 rfl (heap_alloc_new _ _) hlen (by have := hB.size; simp; omega) ?_
             intro g cap w2 hO2 hB2
             have hB3 := ((hB.alloc (hB.size) _).trans hB2)
             clear hB2)))
        go_roundw
        case rel => exact ⟨k + 1, _, _, by omega, by go_num, rfl, HR.out.one (by omega) hO2 hB3⟩
        case measure => simp [intOf]; omega
    · obtain rfl : k = N := by omega
      have hls : expLines s (fun _ => 0) (fun _ => 0) ts = List.replicate (k + 1) [] := by
        rw [expLines_outs _ _ _ _ (fun t ht => (HR.out.kinds t ht).2.2), outs_empty _ _ _ _ (fun t ht => ⟨(HR.out.kinds t ht).1, (HR.out.kinds t ht).2.1⟩), HR.out.splits]
      have Hls := Lib.hid hls
      clear hls
      obtain ⟨a, cp, rfl, ht⟩ := TmsAt.of_owns hO
      clear hO
      unfold tmsV
      go_wp2_with (first | (rw [eN]) | (go_at_call 9; refine (lines_any a cp ts s (matchV 0 0 (fun _ => 0) (fun _ => 0)) _ _ _ ht (matchV_is _ _ _ _) (by omega) hlen HR.out.text).mono ?_; rintro e w4 ⟨dv, rfl, hB3, hO⟩; rw [Hls.out] at hO; obtain ⟨a2, cp2, rfl, hcl⟩ := StrsAt.of_owns hO; clear hO; have hB4 := hB.trans (hB3.mono hB.size); clear hB3; simp only [List.length_replicate, List.getElem_replicate] at hcl ⊢))
      go_loop [10] (fun i => ∃ (j : Nat), j ≤ k + 1 ∧ i = .int .i64 j) (fun i => k + 1 - (intOf i).toNat)
      case atStart => exact ⟨0, by omega, rfl⟩
      case round =>
        obtain ⟨j, hj, rfl⟩ := hrel
        by_cases hlt2 : j < k + 1
        · obtain ⟨b, o, rfl, hc⟩ := hcl j hlt2
          have hc2 : w4.cell? ⟨b, o + j, none⟩ = some (.string ⟨#[]⟩) := hc
          clear hc hcl
          go_wp2
          go_round
          case rel => exact ⟨j + 1, by omega, by go_num⟩
          case measure => simp [intOf]; omega
        · obtain rfl : j = k + 1 := by omega
          clear hcl
          go_wp2_with (rw [eN])
          go_ret
          refine ⟨ret_bool ?_, hB4⟩
          simp

theorem expandSplits_law (n : Int) (n0 : 0 ≤ n) (n1 : n ≤ 255) (kd : Int) (kd0 : 0 ≤ kd) (kd1 : kd ≤ 255) (s : ByteArray) (_hs : s.size ≤ maxLen) (w : World) :
    Calls Try.prog 4 #[.int .u8 n, .int .u8 kd, .string s] w fun e w' => e = .returned (.bool true) ∧ Below w.heap.size w w' := by
  by_cases hl : (s.size : Int) ≤ 100
  · exact expandSplits_in n n0 n1 kd kd0 kd1 s hl w
  · have hl' : (100 : Int) < (s.size : Int) := by omega
    clear hl
    go_enter Try.func4, Try.ntmps4
    go_wp2_with (go_at_call 8; refine (known_any _).mono ?_; rintro e w1 ⟨rfl, hq⟩)
    go_ret
    exact ⟨rfl, hq⟩
end Go.Proofs.Ytalgdihaeglleaa
