/- The walk of the law ExpandGroup. -/
import Derived.Test.YtalgdihaeglleaaExpP
import Derived.Test.YtalgdihaeglleaaExpK
import Derived.Test.YtalgdihaeglleaaStop
import Derived.Laws.Small
namespace Go.Proofs.Ytalgdihaeglleaa
open Go.RowKit

def groupTs (k : Int) : List Tm := [⟨2, ⟨#[]⟩, k, 0⟩, ⟨2, ⟨#[]⟩, 10, 0⟩, ⟨2, ⟨#[]⟩, -1, 0⟩]

def grpB (k : Nat) (v : Int) (j : Nat) : Int := if j = k then v else 0

/-- What stands in memory once a match and pieces are laid: the walk from there on needs no more. -/
structure Laid (w : World) (b bt : Nat) (c : Array Value) (ts : List Tm) (W : World) : Prop where
  m : W.heap[b]? = some (.cells c 25 (0, 0))
  t : TmsAt W (some ⟨bt, 0, none⟩) ts
  below : Below w.heap.size w W
theorem Laid.of {w W : World} {b bt : Nat} {c : Array Value} {ts : List Tm} (hH : W.heap[b]? = some (.cells c 25 (0, 0))) (hB : Below w.heap.size w W) (hle : w.heap.size ≤ W.heap.size) (hs : W.heap.size = bt) (hb : b < bt) :
    Laid w b bt c ts (W.alloc (.cells (tmCells ts).toArray 29)) :=
  ⟨by rw [Below.heap_alloc _ _ _ (by omega)]; exact hH, hs ▸ tms_new W ts _, hB.alloc hle _⟩

theorem str_beq_self (a : ByteArray) : (a == a) = true := by
  show (a.data == a.data) = true
  simp

set_option maxRecDepth 100000 in
set_option maxHeartbeats 4000000 in
theorem expandGroup_in (s : ByteArray) (hl : (s.size : Int) ≤ 500) (f : Int) (f0 : -9223372036854775808 ≤ f) (f1 : f ≤ 9223372036854775807) (t : Int) (t0 : -9223372036854775808 ≤ t) (t1 : t ≤ 9223372036854775807) (n : Int) (n0 : -9223372036854775808 ≤ n) (n1 : n ≤ 9223372036854775807) (w : World) :
    Calls Try.prog 3 #[.string s, .int .i64 f, .int .i64 t, .int .i64 n] w fun e w' => e = .returned (.bool true) ∧ Below w.heap.size w w' := by
  obtain ⟨k, hk, ek⟩ : ∃ k : Nat, k < 10 ∧ max n 0 % 10 = (k : Int) := ⟨(max n 0 % 10).toNat, by omega, by omega⟩
  have hg : groupB s (grpB k f) (grpB k t) k = if f < 0 ∨ t < f ∨ (s.size : Int) < t then ⟨#[]⟩ else s.extract f.toNat t.toNat := by
    unfold groupB grpB
    rw [if_neg (by omega)]
    simp
  have Hg := Lib.hid hg
  clear hg
  obtain ⟨c0, hc0⟩ : ∃ c0, matchV 0 0 (fun _ => 0) (fun _ => 0) = c0 := ⟨_, rfl⟩
  have hm0 : IsMatch c0 (fun _ => 0) (fun _ => 0) := hc0 ▸ matchV_is _ _ _ _
  have Hc0 := Lib.hid hc0
  clear hc0
  have hm1 : IsMatch (c0.setIfInBounds (2 + k) (.int .i64 f)) (grpB k f) (fun _ => 0) := hm0.setB k hk f
  have hm2 : IsMatch ((c0.setIfInBounds (2 + k) (.int .i64 f)).setIfInBounds (12 + k) (.int .i64 t)) (grpB k f) (grpB k t) := hm1.setE k hk t
  have hline := group_alone s (grpB k f) (grpB k t) k
  have Hline : Hid (expLines s (grpB k f) (grpB k t) (groupTs k) = [(groupB s (grpB k f) (grpB k t) k).data.toList]) := Lib.hid hline
  clear hline
  obtain ⟨G, hG⟩ : ∃ G, groupB s (grpB k f) (grpB k t) k = G := ⟨_, rfl⟩
  rw [hG] at Hg Hline
  clear hG
  have hcase : (f < 0 ∧ G = ⟨#[]⟩) ∨ (0 ≤ f ∧ t < f ∧ G = ⟨#[]⟩) ∨ (0 ≤ f ∧ f ≤ t ∧ (s.size : Int) < t ∧ G = ⟨#[]⟩) ∨ (0 ≤ f ∧ f ≤ t ∧ t ≤ (s.size : Int) ∧ Hid (G = s.extract f.toNat t.toNat)) := by
    have h := Hg.out
    by_cases c1 : f < 0
    · rw [if_pos (.inl c1)] at h; exact .inl ⟨c1, h⟩
    · by_cases c2 : t < f
      · rw [if_pos (.inr (.inl c2))] at h; exact .inr (.inl ⟨by omega, c2, h⟩)
      · by_cases c3 : (s.size : Int) < t
        · rw [if_pos (.inr (.inr c3))] at h; exact .inr (.inr (.inl ⟨by omega, by omega, c3, h⟩))
        · rw [if_neg (by omega)] at h; exact .inr (.inr (.inr ⟨by omega, by omega, by omega, Lib.hid h⟩))
  clear Hg
  have hts1 : (groupTs k).length ≤ 1000 := by simp [groupTs]
  have hts2 : ∀ t ∈ groupTs k, t.text.size ≤ 1000 := by
    intro t ht
    simp only [groupTs, List.mem_cons, List.not_mem_nil, or_false] at ht
    rcases ht with rfl | rfl | rfl <;> simp [ByteArray.size]
  · go_enter Try.func3, Try.ntmps3
    go_wp2_with (first
      | (go_at_call 8; refine (known_any _).mono ?_; rintro e w1 ⟨rfl, hq⟩)
      | (with_reducible refine stopSt 25 _ _ rfl ?_; unfold Stop; refine wpList_store_row rfl 25 _ _ rfl w1.heap.size (matchV 0 0 (fun _ => 0) (fun _ => 0)) rfl rfl 25 _ (heap_alloc_new _ _) (by kernel_rfl) rfl (by kernel_rfl) ?_
         rw [World.setRow_alloc_new, Hc0.out]
         obtain ⟨hH, hB, hs⟩ := match_new w1 c0 25
         generalize w1.alloc (.cells c0 25) = W1 at *)
      | (with_reducible refine stopFA _ _ 2 rfl ?_; unfold Stop; rw [ek]; have d0 := cell_of hH (2 + k) (hm0.b k hk); have d1 := free_of hH (2 + k))
      | (with_reducible refine stopFA _ _ 3 rfl ?_; unfold Stop; clear d0 d1
         replace hH := heap_set hH (2 + k) (.int .i64 f)
         have d0 := cell_of hH (12 + k) (hm1.e k hk); have d1 := free_of hH (12 + k))
      | (with_reducible refine stopBS _ _ _ rfl ?_; unfold Stop; clear d0 d1
         replace hH := heap_set hH (12 + k) (.int .i64 t)
         have hs2 : ((W1.setCell ⟨w1.heap.size, 2 + k, none⟩ (.int .i64 f)).setCell ⟨w1.heap.size, 12 + k, none⟩ (.int .i64 t)).heap.size = w1.heap.size + 1 := by simp [hs]
         have hB2 : Below w.heap.size w ((W1.setCell ⟨w1.heap.size, 2 + k, none⟩ (.int .i64 f)).setCell ⟨w1.heap.size, 12 + k, none⟩ (.int .i64 t)) := hq.trans ((((hB.mono hq.size).setCell hq.size _)).setCell hq.size _)
         generalize (W1.setCell ⟨w1.heap.size, 2 + k, none⟩ (.int .i64 f)).setCell ⟨w1.heap.size, 12 + k, none⟩ (.int .i64 t) = W2 at *
         generalize (c0.setIfInBounds (2 + k) (.int .i64 f)).setIfInBounds (12 + k) (.int .i64 t) = c2 at *
         refine Great.wpList_buildRows rfl 30 29 _ 4 ((groupTs k).map Tm.val) rfl (fun i => 34 + i) (w1.heap.size + 1) hs2 _ rfl Try.underlying30 (by kernel_rfl) (by kernel_rfl) (by decide) (by simp [groupTs]) (by simp [groupTs]) rfl (by intro v hv; simp only [List.mem_map] at hv; obtain ⟨t, _, rfl⟩ := hv; rfl) (by intro i hi; match i, hi with | 0, _ => rfl | 1, _ => rfl | 2, _ => rfl) ?_
         rw [vals_cells]
         have hL := Laid.of (ts := groupTs k) hH hB2 (hB2.size) hs2 (Nat.lt_succ_self _)
         clear hH hB2 hs2 hB hs
         generalize W2.alloc (.cells (tmCells (groupTs k)).toArray 29) = W3 at *
         simp only [show ((groupTs k).map Tm.val).length = 3 from rfl])
      | (with_reducible refine stopLd 25 _ rfl ?_; unfold Stop; refine wpList_load_row rfl 25 _ rfl w1.heap.size rfl 25 c2 (0, 0) _ hL.m rfl rfl (by rw [hm2.size]; kernel_rfl) ?_)
      | (go_at_call 9; refine (lines_any (some ⟨w1.heap.size + 1, 0, none⟩) 3 (groupTs k) s c2 _ _ _ hL.t hm2 (by omega) hts1 hts2).mono ?_; rintro e w4 ⟨dv, rfl, hB3, hO⟩; obtain ⟨b, o, cap, rfl, hcl⟩ := one_line hO Hline.out; clear hO; have hB4 := hL.below.trans (hB3.mono hL.below.size); clear hB3 hL hm0 hm1 hm2 hts1 hts2 hq Hline; rw [Array.toArray_toList] at hcl; rcases hcase with ⟨hc, hG⟩ | ⟨hc, hd, hG⟩ | ⟨hc, hd, he, hG⟩ | ⟨hc, hd, he, HG⟩; (subst hG); rotate_left; (subst hG); rotate_left; (subst hG); rotate_left; rotate_left))
    all_goals go_ret
    · exact ⟨rfl, hB4⟩
    · exact ⟨rfl, hB4⟩
    · exact ⟨rfl, hB4⟩
    · refine ⟨ret_bool ?_, hB4⟩
      have e : (⟨G.data⟩ : ByteArray) = s.extract f.toNat t.toNat := HG.out
      rw [e]
      exact beq_self_eq_true _

theorem expandGroup_law (s : ByteArray) (_hs : s.size ≤ maxLen) (f : Int) (f0 : -9223372036854775808 ≤ f) (f1 : f ≤ 9223372036854775807) (t : Int) (t0 : -9223372036854775808 ≤ t) (t1 : t ≤ 9223372036854775807) (n : Int) (n0 : -9223372036854775808 ≤ n) (n1 : n ≤ 9223372036854775807) (w : World) :
    Calls Try.prog 3 #[.string s, .int .i64 f, .int .i64 t, .int .i64 n] w fun e w' => e = .returned (.bool true) ∧ Below w.heap.size w w' := by
  by_cases hl : (s.size : Int) ≤ 500
  · exact expandGroup_in s hl f f0 f1 t t0 t1 n n0 n1 w
  · have hl' : (500 : Int) < (s.size : Int) := by omega
    clear hl
    go_enter Try.func3, Try.ntmps3
    go_wp2_with (go_at_call 8; refine (known_any _).mono ?_; rintro e w1 ⟨rfl, hq⟩)
    go_ret
    exact ⟨rfl, hq⟩
end Go.Proofs.Ytalgdihaeglleaa
