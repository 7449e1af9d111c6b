/- The walk of the law ExpandCases. -/
import Derived.Test.YtalgdihaeglleaaExpL
namespace Go.Proofs.Ytalgdihaeglleaa
open Go.RowKit

def casesTs (r : Nat) (s t : ByteArray) : List Tm := [⟨4, ⟨#[]⟩, 0, sayC r⟩, ⟨1, s, 0, 0⟩, ⟨4, ⟨#[]⟩, 0, 69⟩, ⟨1, t, 0, 0⟩]

/-- What is laid, byte by byte. -/
structure CasedB (r : Nat) (s t U : ByteArray) : Prop where
  size : U.size = s.size + t.size
  at_ : ∀ k (hk : k < s.size) (h : k < U.size), (U[k].toNat : Int) = caseI (if r > 1 ∨ k = 0 then some (decide (r % 2 = 0)) else none) s[k].toNat
  tail : U.extract s.size U.size = t
theorem cased_b (r : Nat) (hr : r < 4) (s t : ByteArray) : CasedB r s t ⟨(casedL r s.data.toList ++ t.data.toList).toArray⟩ := by
  have hl := casedL_len r s.data.toList
  have hs : s.data.toList.length = s.size := Array.length_toList
  have ht : t.data.toList.length = t.size := Array.length_toList
  have hsz : (⟨(casedL r s.data.toList ++ t.data.toList).toArray⟩ : ByteArray).size = s.size + t.size := by
    show (casedL r s.data.toList ++ t.data.toList).toArray.size = _
    rw [List.size_toArray, List.length_append, hl]; omega
  refine ⟨hsz, fun k hk h => ?_, ?_⟩
  · have e : (⟨(casedL r s.data.toList ++ t.data.toList).toArray⟩ : ByteArray)[k] = (casedL r s.data.toList ++ t.data.toList)[k]'(by simp [hl]; omega) := by
      show ((casedL r s.data.toList ++ t.data.toList).toArray)[k] = _
      simp
    rw [e, List.getElem_append_left (by omega), casedL_at r hr _ k (by omega), caseU_val]
    rfl
  · apply ByteArray.ext
    rw [ByteArray.data_extract]
    apply Array.ext'
    simp only [Array.toList_extract, List.extract]
    rw [hsz, List.take_of_length_le (by rw [List.length_drop, List.length_append, hl]; omega)]
    rw [show s.size = (casedL r s.data.toList).length by omega, List.drop_left]

theorem great_if (c : Int) : greatI c = if 97 ≤ c ∧ c ≤ 122 then c - 32 else c := by
  unfold greatI smallB btw
  by_cases h : 97 ≤ c <;> by_cases h2 : c ≤ 122 <;> simp [h, h2]
theorem small_if (c : Int) : smallI c = if 65 ≤ c ∧ c ≤ 90 then c + 32 else c := by
  unfold smallI greatB btw
  by_cases h : 65 ≤ c <;> by_cases h2 : c ≤ 90 <;> simp [h, h2]

set_option maxRecDepth 100000 in
set_option maxHeartbeats 4000000 in
theorem expandCases_in (s t : ByteArray) (hl : (s.size : Int) ≤ 200) (hl2 : (t.size : Int) ≤ 200) (h : Int) (h0 : 0 ≤ h) (h1 : h ≤ 255) (w : World) :
    Calls Try.prog 7 #[.string s, .string t, .int .u8 h] w fun e w' => e = .returned (.bool true) ∧ Below w.heap.size w w' := by
  obtain ⟨r, hr, e4⟩ : ∃ r : Nat, r < 4 ∧ h % 4 = (r : Int) := ⟨(h % 4).toNat, by omega, by omega⟩
  have e2 : h % 2 = ((r % 2 : Nat) : Int) := by omega
  obtain ⟨U, HU, Hline⟩ : ∃ U, Hid (CasedB r s t U) ∧ Hid (expLines ⟨#[]⟩ (fun _ => 0) (fun _ => 0) (casesTs r s t) = [U.data.toList]) :=
    ⟨⟨(casedL r s.data.toList ++ t.data.toList).toArray⟩, Lib.hid (cased_b r hr s t), Lib.hid (cases_lines r hr s t (fun _ => 0) (fun _ => 0))⟩
  have hts1 : (casesTs r s t).length ≤ 1000 := by simp [casesTs]
  have hts2 : ∀ u ∈ casesTs r s t, u.text.size ≤ 1000 := by
    intro u hu
    simp only [casesTs, List.mem_cons, List.not_mem_nil, or_false] at hu
    rcases hu with rfl | rfl | rfl | rfl
    · simp [ByteArray.size]
    · show s.size ≤ 1000; omega
    · simp [ByteArray.size]
    · show t.size ≤ 1000; omega
  have hne : ((U.size : Int) != (s.size : Int) + t.size) = false := by have := HU.out.size; simp; omega
  obtain rfl | rfl | rfl | rfl : r = 0 ∨ r = 1 ∨ r = 2 ∨ r = 3 := by omega
  · simp only [Int.natCast_zero, Int.natCast_one, show ((2 : Nat) : Int) = (2 : Int) from rfl, show ((3 : Nat) : Int) = (3 : Int) from rfl, show ((0 % 2 : Nat) : Int) = 0 from rfl, show ((1 % 2 : Nat) : Int) = 1 from rfl, show ((2 % 2 : Nat) : Int) = 0 from rfl, show ((3 % 2 : Nat) : Int) = 1 from rfl] at e4 e2
    go_enter Try.func7, Try.ntmps7
    go_wp2_with (first
      | (rw [e4])
      | (go_at_call 8; refine (known_any _).mono ?_; rintro e w1 ⟨rfl, hq⟩)
      | (with_reducible refine stopBS 30 _ _ rfl ?_; unfold Stop
         generalize hW : w1.alloc (.cells #[.int .u8 117, .int .u8 108, .int .u8 85, .int .u8 76] 5) = W1
         have hB2 : Below w.heap.size w W1 := hW ▸ hq.alloc hq.size _
         have hs2 : W1.heap.size = w1.heap.size + 1 := hW ▸ (by simp)
         clear hW
         refine Great.wpList_buildRows rfl 30 29 _ 4 ((casesTs 0 s t).map Tm.val) rfl (fun i => [31, 33, 34, 36].getD i 0) (w1.heap.size + 1) hs2 _ rfl Try.underlying30 (by kernel_rfl) (by kernel_rfl) (by decide) (by simp [casesTs]) (by simp [casesTs]) rfl (by intro v hv; simp only [List.mem_map] at hv; obtain ⟨t, _, rfl⟩ := hv; rfl) (by intro i hi; match i, hi with | 0, _ => rfl | 1, _ => rfl | 2, _ => rfl | 3, _ => rfl) ?_
         rw [vals_cells]
         have hT := hs2 ▸ tms_new W1 (casesTs 0 s t) 29
         have hB3 : Below w.heap.size w (W1.alloc (.cells (tmCells (casesTs 0 s t)).toArray 29)) := hB2.alloc hB2.size _
         clear hs2 hB2
         generalize W1.alloc (.cells (tmCells (casesTs 0 s t)).toArray 29) = W3 at *
         simp only [show ((casesTs 0 s t).map Tm.val).length = 4 from rfl])
      | (go_at_call 9; refine (lines_any (some ⟨w1.heap.size + 1, 0, none⟩) 4 (casesTs 0 s t) ⟨#[]⟩ (matchV 0 0 (fun _ => 0) (fun _ => 0)) _ _ _ hT (matchV_is _ _ _ _) (by decide) hts1 hts2).mono ?_; rintro e w4 ⟨dv, rfl, hB4, hO⟩; obtain ⟨b, o, cap, rfl, hcl⟩ := one_line hO Hline.out; clear hO; have hB5 := hB3.trans (hB4.mono hB3.size); clear hB3 hB4 hT hts1 hts2 hq Hline; rw [Array.toArray_toList] at hcl; replace hcl : w4.cell? ⟨b, o, none⟩ = some (.string U) := hcl; have hsz := HU.out.size)
      | (rw [hne]))
    go_loop [9, 10, 11] (fun i x y => ∃ (k : Nat), k ≤ s.size ∧ i = .int .i64 k) (fun i x y => s.size - (intOf i).toNat)
    case atStart => exact ⟨0, by omega, rfl⟩
    case round =>
      obtain ⟨k, hk, rfl⟩ := hrel
      by_cases hlt : k < s.size
      · have hlt2 : k < U.size := by omega
        have hu0 := HU.out.at_ k hlt hlt2
        have hcr := byte_rng s[k]
        by_cases hz : k = 0
        · subst hz
          have hm : caseI (some true) s[0].toNat = greatI s[0].toNat := rfl
          rw [if_pos (by omega), show decide (0 % 2 = 0) = true from rfl, hm] at hu0
          rw [great_if] at hu0
          by_cases hA : (s[0].toNat : Int) < 97
          · rw [if_neg (by omega)] at hu0
            have hu := hu0
            clear hu0
            go_wp2_with (first | (rw [e4]) | (rw [e2]) | (rw [hu]))
            go_round
            case rel => exact ⟨0 + 1, by omega, by go_num⟩
            case measure => simp [intOf]; omega
          · by_cases hB : (s[0].toNat : Int) ≤ 122
            · rw [if_pos (by omega)] at hu0
              have hu := hu0
              have hA1 : 97 ≤ (s[0].toNat : Int) := by omega
              clear hu0
              go_wp2_with (first | (rw [e4]) | (rw [e2]) | (rw [hu]))
              go_round
              case rel => exact ⟨0 + 1, by omega, by go_num⟩
              case measure => simp [intOf]; omega
            · rw [if_neg (by omega)] at hu0
              have hu := hu0
              have hA1 : 97 ≤ (s[0].toNat : Int) := by omega
              have hB1 : 122 < (s[0].toNat : Int) := by omega
              clear hu0
              go_wp2_with (first | (rw [e4]) | (rw [e2]) | (rw [hu]))
              go_round
              case rel => exact ⟨0 + 1, by omega, by go_num⟩
              case measure => simp [intOf]; omega
        · rw [if_neg (by omega)] at hu0
          have hz1 : ((k : Int) == 0) = false := by simp; omega
          have hu : (U[k].toNat : Int) = s[k].toNat := hu0
          clear hu0
          go_wp2_with (first | (rw [e4]) | (rw [e2]) | (rw [hu]))
          go_round
          case rel => exact ⟨k + 1, by omega, by go_num⟩
          case measure => simp [intOf]; omega
      · obtain rfl : k = s.size := by omega
        have Htl := Lib.hid HU.out.tail
        go_wp2
        go_ret
        refine ⟨ret_bool ?_, hB5⟩
        have q := Htl.out
        rw [hsz] at q
        rw [q]
        exact beq_self_eq_true _
  · simp only [Int.natCast_zero, Int.natCast_one, show ((2 : Nat) : Int) = (2 : Int) from rfl, show ((3 : Nat) : Int) = (3 : Int) from rfl, show ((0 % 2 : Nat) : Int) = 0 from rfl, show ((1 % 2 : Nat) : Int) = 1 from rfl, show ((2 % 2 : Nat) : Int) = 0 from rfl, show ((3 % 2 : Nat) : Int) = 1 from rfl] at e4 e2
    go_enter Try.func7, Try.ntmps7
    go_wp2_with (first
      | (rw [e4])
      | (go_at_call 8; refine (known_any _).mono ?_; rintro e w1 ⟨rfl, hq⟩)
      | (with_reducible refine stopBS 30 _ _ rfl ?_; unfold Stop
         generalize hW : w1.alloc (.cells #[.int .u8 117, .int .u8 108, .int .u8 85, .int .u8 76] 5) = W1
         have hB2 : Below w.heap.size w W1 := hW ▸ hq.alloc hq.size _
         have hs2 : W1.heap.size = w1.heap.size + 1 := hW ▸ (by simp)
         clear hW
         refine Great.wpList_buildRows rfl 30 29 _ 4 ((casesTs 1 s t).map Tm.val) rfl (fun i => [31, 33, 34, 36].getD i 0) (w1.heap.size + 1) hs2 _ rfl Try.underlying30 (by kernel_rfl) (by kernel_rfl) (by decide) (by simp [casesTs]) (by simp [casesTs]) rfl (by intro v hv; simp only [List.mem_map] at hv; obtain ⟨t, _, rfl⟩ := hv; rfl) (by intro i hi; match i, hi with | 0, _ => rfl | 1, _ => rfl | 2, _ => rfl | 3, _ => rfl) ?_
         rw [vals_cells]
         have hT := hs2 ▸ tms_new W1 (casesTs 1 s t) 29
         have hB3 : Below w.heap.size w (W1.alloc (.cells (tmCells (casesTs 1 s t)).toArray 29)) := hB2.alloc hB2.size _
         clear hs2 hB2
         generalize W1.alloc (.cells (tmCells (casesTs 1 s t)).toArray 29) = W3 at *
         simp only [show ((casesTs 1 s t).map Tm.val).length = 4 from rfl])
      | (go_at_call 9; refine (lines_any (some ⟨w1.heap.size + 1, 0, none⟩) 4 (casesTs 1 s t) ⟨#[]⟩ (matchV 0 0 (fun _ => 0) (fun _ => 0)) _ _ _ hT (matchV_is _ _ _ _) (by decide) hts1 hts2).mono ?_; rintro e w4 ⟨dv, rfl, hB4, hO⟩; obtain ⟨b, o, cap, rfl, hcl⟩ := one_line hO Hline.out; clear hO; have hB5 := hB3.trans (hB4.mono hB3.size); clear hB3 hB4 hT hts1 hts2 hq Hline; rw [Array.toArray_toList] at hcl; replace hcl : w4.cell? ⟨b, o, none⟩ = some (.string U) := hcl; have hsz := HU.out.size)
      | (rw [hne]))
    go_loop [9, 10, 11] (fun i x y => ∃ (k : Nat), k ≤ s.size ∧ i = .int .i64 k) (fun i x y => s.size - (intOf i).toNat)
    case atStart => exact ⟨0, by omega, rfl⟩
    case round =>
      obtain ⟨k, hk, rfl⟩ := hrel
      by_cases hlt : k < s.size
      · have hlt2 : k < U.size := by omega
        have hu0 := HU.out.at_ k hlt hlt2
        have hcr := byte_rng s[k]
        by_cases hz : k = 0
        · subst hz
          have hm : caseI (some false) s[0].toNat = smallI s[0].toNat := rfl
          rw [if_pos (by omega), show decide (1 % 2 = 0) = false from rfl, hm] at hu0
          rw [small_if] at hu0
          by_cases hA : (s[0].toNat : Int) < 65
          · rw [if_neg (by omega)] at hu0
            have hu := hu0
            clear hu0
            go_wp2_with (first | (rw [e4]) | (rw [e2]) | (rw [hu]))
            go_round
            case rel => exact ⟨0 + 1, by omega, by go_num⟩
            case measure => simp [intOf]; omega
          · by_cases hB : (s[0].toNat : Int) ≤ 90
            · rw [if_pos (by omega)] at hu0
              have hu := hu0
              have hA1 : 65 ≤ (s[0].toNat : Int) := by omega
              clear hu0
              go_wp2_with (first | (rw [e4]) | (rw [e2]) | (rw [hu]))
              go_round
              case rel => exact ⟨0 + 1, by omega, by go_num⟩
              case measure => simp [intOf]; omega
            · rw [if_neg (by omega)] at hu0
              have hu := hu0
              have hA1 : 65 ≤ (s[0].toNat : Int) := by omega
              have hB1 : 90 < (s[0].toNat : Int) := by omega
              clear hu0
              go_wp2_with (first | (rw [e4]) | (rw [e2]) | (rw [hu]))
              go_round
              case rel => exact ⟨0 + 1, by omega, by go_num⟩
              case measure => simp [intOf]; omega
        · rw [if_neg (by omega)] at hu0
          have hz1 : ((k : Int) == 0) = false := by simp; omega
          have hu : (U[k].toNat : Int) = s[k].toNat := hu0
          clear hu0
          go_wp2_with (first | (rw [e4]) | (rw [e2]) | (rw [hu]))
          go_round
          case rel => exact ⟨k + 1, by omega, by go_num⟩
          case measure => simp [intOf]; omega
      · obtain rfl : k = s.size := by omega
        have Htl := Lib.hid HU.out.tail
        go_wp2
        go_ret
        refine ⟨ret_bool ?_, hB5⟩
        have q := Htl.out
        rw [hsz] at q
        rw [q]
        exact beq_self_eq_true _
  · simp only [Int.natCast_zero, Int.natCast_one, show ((2 : Nat) : Int) = (2 : Int) from rfl, show ((3 : Nat) : Int) = (3 : Int) from rfl, show ((0 % 2 : Nat) : Int) = 0 from rfl, show ((1 % 2 : Nat) : Int) = 1 from rfl, show ((2 % 2 : Nat) : Int) = 0 from rfl, show ((3 % 2 : Nat) : Int) = 1 from rfl] at e4 e2
    go_enter Try.func7, Try.ntmps7
    go_wp2_with (first
      | (rw [e4])
      | (go_at_call 8; refine (known_any _).mono ?_; rintro e w1 ⟨rfl, hq⟩)
      | (with_reducible refine stopBS 30 _ _ rfl ?_; unfold Stop
         generalize hW : w1.alloc (.cells #[.int .u8 117, .int .u8 108, .int .u8 85, .int .u8 76] 5) = W1
         have hB2 : Below w.heap.size w W1 := hW ▸ hq.alloc hq.size _
         have hs2 : W1.heap.size = w1.heap.size + 1 := hW ▸ (by simp)
         clear hW
         refine Great.wpList_buildRows rfl 30 29 _ 4 ((casesTs 2 s t).map Tm.val) rfl (fun i => [31, 33, 34, 36].getD i 0) (w1.heap.size + 1) hs2 _ rfl Try.underlying30 (by kernel_rfl) (by kernel_rfl) (by decide) (by simp [casesTs]) (by simp [casesTs]) rfl (by intro v hv; simp only [List.mem_map] at hv; obtain ⟨t, _, rfl⟩ := hv; rfl) (by intro i hi; match i, hi with | 0, _ => rfl | 1, _ => rfl | 2, _ => rfl | 3, _ => rfl) ?_
         rw [vals_cells]
         have hT := hs2 ▸ tms_new W1 (casesTs 2 s t) 29
         have hB3 : Below w.heap.size w (W1.alloc (.cells (tmCells (casesTs 2 s t)).toArray 29)) := hB2.alloc hB2.size _
         clear hs2 hB2
         generalize W1.alloc (.cells (tmCells (casesTs 2 s t)).toArray 29) = W3 at *
         simp only [show ((casesTs 2 s t).map Tm.val).length = 4 from rfl])
      | (go_at_call 9; refine (lines_any (some ⟨w1.heap.size + 1, 0, none⟩) 4 (casesTs 2 s t) ⟨#[]⟩ (matchV 0 0 (fun _ => 0) (fun _ => 0)) _ _ _ hT (matchV_is _ _ _ _) (by decide) hts1 hts2).mono ?_; rintro e w4 ⟨dv, rfl, hB4, hO⟩; obtain ⟨b, o, cap, rfl, hcl⟩ := one_line hO Hline.out; clear hO; have hB5 := hB3.trans (hB4.mono hB3.size); clear hB3 hB4 hT hts1 hts2 hq Hline; rw [Array.toArray_toList] at hcl; replace hcl : w4.cell? ⟨b, o, none⟩ = some (.string U) := hcl; have hsz := HU.out.size)
      | (rw [hne]))
    go_loop [9, 10, 11] (fun i x y => ∃ (k : Nat), k ≤ s.size ∧ i = .int .i64 k) (fun i x y => s.size - (intOf i).toNat)
    case atStart => exact ⟨0, by omega, rfl⟩
    case round =>
      obtain ⟨k, hk, rfl⟩ := hrel
      by_cases hlt : k < s.size
      · have hlt2 : k < U.size := by omega
        have hu0 := HU.out.at_ k hlt hlt2
        have hcr := byte_rng s[k]
        have hm : caseI (some true) s[k].toNat = greatI s[k].toNat := rfl
        rw [if_pos (by omega), show decide (2 % 2 = 0) = true from rfl, hm] at hu0
        rw [great_if] at hu0
        by_cases hA : (s[k].toNat : Int) < 97
        · rw [if_neg (by omega)] at hu0
          have hu := hu0
          clear hu0
          go_wp2_with (first | (rw [e4]) | (rw [e2]) | (rw [hu]))
          go_round
          case rel => exact ⟨k + 1, by omega, by go_num⟩
          case measure => simp [intOf]; omega
        · by_cases hB : (s[k].toNat : Int) ≤ 122
          · rw [if_pos (by omega)] at hu0
            have hu := hu0
            have hA1 : 97 ≤ (s[k].toNat : Int) := by omega
            clear hu0
            go_wp2_with (first | (rw [e4]) | (rw [e2]) | (rw [hu]))
            go_round
            case rel => exact ⟨k + 1, by omega, by go_num⟩
            case measure => simp [intOf]; omega
          · rw [if_neg (by omega)] at hu0
            have hu := hu0
            have hA1 : 97 ≤ (s[k].toNat : Int) := by omega
            have hB1 : 122 < (s[k].toNat : Int) := by omega
            clear hu0
            go_wp2_with (first | (rw [e4]) | (rw [e2]) | (rw [hu]))
            go_round
            case rel => exact ⟨k + 1, by omega, by go_num⟩
            case measure => simp [intOf]; omega
      · obtain rfl : k = s.size := by omega
        have Htl := Lib.hid HU.out.tail
        go_wp2
        go_ret
        refine ⟨ret_bool ?_, hB5⟩
        have q := Htl.out
        rw [hsz] at q
        rw [q]
        exact beq_self_eq_true _
  · simp only [Int.natCast_zero, Int.natCast_one, show ((2 : Nat) : Int) = (2 : Int) from rfl, show ((3 : Nat) : Int) = (3 : Int) from rfl, show ((0 % 2 : Nat) : Int) = 0 from rfl, show ((1 % 2 : Nat) : Int) = 1 from rfl, show ((2 % 2 : Nat) : Int) = 0 from rfl, show ((3 % 2 : Nat) : Int) = 1 from rfl] at e4 e2
    go_enter Try.func7, Try.ntmps7
    go_wp2_with (first
      | (rw [e4])
      | (go_at_call 8; refine (known_any _).mono ?_; rintro e w1 ⟨rfl, hq⟩)
      | (with_reducible refine stopBS 30 _ _ rfl ?_; unfold Stop
         generalize hW : w1.alloc (.cells #[.int .u8 117, .int .u8 108, .int .u8 85, .int .u8 76] 5) = W1
         have hB2 : Below w.heap.size w W1 := hW ▸ hq.alloc hq.size _
         have hs2 : W1.heap.size = w1.heap.size + 1 := hW ▸ (by simp)
         clear hW
         refine Great.wpList_buildRows rfl 30 29 _ 4 ((casesTs 3 s t).map Tm.val) rfl (fun i => [31, 33, 34, 36].getD i 0) (w1.heap.size + 1) hs2 _ rfl Try.underlying30 (by kernel_rfl) (by kernel_rfl) (by decide) (by simp [casesTs]) (by simp [casesTs]) rfl (by intro v hv; simp only [List.mem_map] at hv; obtain ⟨t, _, rfl⟩ := hv; rfl) (by intro i hi; match i, hi with | 0, _ => rfl | 1, _ => rfl | 2, _ => rfl | 3, _ => rfl) ?_
         rw [vals_cells]
         have hT := hs2 ▸ tms_new W1 (casesTs 3 s t) 29
         have hB3 : Below w.heap.size w (W1.alloc (.cells (tmCells (casesTs 3 s t)).toArray 29)) := hB2.alloc hB2.size _
         clear hs2 hB2
         generalize W1.alloc (.cells (tmCells (casesTs 3 s t)).toArray 29) = W3 at *
         simp only [show ((casesTs 3 s t).map Tm.val).length = 4 from rfl])
      | (go_at_call 9; refine (lines_any (some ⟨w1.heap.size + 1, 0, none⟩) 4 (casesTs 3 s t) ⟨#[]⟩ (matchV 0 0 (fun _ => 0) (fun _ => 0)) _ _ _ hT (matchV_is _ _ _ _) (by decide) hts1 hts2).mono ?_; rintro e w4 ⟨dv, rfl, hB4, hO⟩; obtain ⟨b, o, cap, rfl, hcl⟩ := one_line hO Hline.out; clear hO; have hB5 := hB3.trans (hB4.mono hB3.size); clear hB3 hB4 hT hts1 hts2 hq Hline; rw [Array.toArray_toList] at hcl; replace hcl : w4.cell? ⟨b, o, none⟩ = some (.string U) := hcl; have hsz := HU.out.size)
      | (rw [hne]))
    go_loop [9, 10, 11] (fun i x y => ∃ (k : Nat), k ≤ s.size ∧ i = .int .i64 k) (fun i x y => s.size - (intOf i).toNat)
    case atStart => exact ⟨0, by omega, rfl⟩
    case round =>
      obtain ⟨k, hk, rfl⟩ := hrel
      by_cases hlt : k < s.size
      · have hlt2 : k < U.size := by omega
        have hu0 := HU.out.at_ k hlt hlt2
        have hcr := byte_rng s[k]
        have hm : caseI (some false) s[k].toNat = smallI s[k].toNat := rfl
        rw [if_pos (by omega), show decide (3 % 2 = 0) = false from rfl, hm] at hu0
        rw [small_if] at hu0
        by_cases hA : (s[k].toNat : Int) < 65
        · rw [if_neg (by omega)] at hu0
          have hu := hu0
          clear hu0
          go_wp2_with (first | (rw [e4]) | (rw [e2]) | (rw [hu]))
          go_round
          case rel => exact ⟨k + 1, by omega, by go_num⟩
          case measure => simp [intOf]; omega
        · by_cases hB : (s[k].toNat : Int) ≤ 90
          · rw [if_pos (by omega)] at hu0
            have hu := hu0
            have hA1 : 65 ≤ (s[k].toNat : Int) := by omega
            clear hu0
            go_wp2_with (first | (rw [e4]) | (rw [e2]) | (rw [hu]))
            go_round
            case rel => exact ⟨k + 1, by omega, by go_num⟩
            case measure => simp [intOf]; omega
          · rw [if_neg (by omega)] at hu0
            have hu := hu0
            have hA1 : 65 ≤ (s[k].toNat : Int) := by omega
            have hB1 : 90 < (s[k].toNat : Int) := by omega
            clear hu0
            go_wp2_with (first | (rw [e4]) | (rw [e2]) | (rw [hu]))
            go_round
            case rel => exact ⟨k + 1, by omega, by go_num⟩
            case measure => simp [intOf]; omega
      · obtain rfl : k = s.size := by omega
        have Htl := Lib.hid HU.out.tail
        go_wp2
        go_ret
        refine ⟨ret_bool ?_, hB5⟩
        have q := Htl.out
        rw [hsz] at q
        rw [q]
        exact beq_self_eq_true _

theorem expandCases_law (s : ByteArray) (_hs : s.size ≤ maxLen) (t : ByteArray) (_ht : t.size ≤ maxLen) (h : Int) (h0 : 0 ≤ h) (h1 : h ≤ 255) (w : World) :
    Calls Try.prog 7 #[.string s, .string t, .int .u8 h] w fun e w' => e = .returned (.bool true) ∧ Below w.heap.size w w' := by
  by_cases hl : (s.size : Int) ≤ 200
  · by_cases hl2 : (t.size : Int) ≤ 200
    · exact expandCases_in s t hl hl2 h h0 h1 w
    · have hl3 : (200 : Int) < (t.size : Int) := by omega
      clear hl2
      go_enter Try.func7, Try.ntmps7
      go_wp2_with (go_at_call 8; refine (known_any _).mono ?_; rintro e w1 ⟨rfl, hq⟩)
      go_ret
      exact ⟨rfl, hq⟩
  · have hl' : (200 : Int) < (s.size : Int) := by omega
    clear hl
    go_enter Try.func7, Try.ntmps7
    go_wp2_with (go_at_call 8; refine (known_any _).mono ?_; rintro e w1 ⟨rfl, hq⟩)
    go_ret
    exact ⟨rfl, hq⟩
end Go.Proofs.Ytalgdihaeglleaa
