/- Lemmas that the law's proof stands on, part 26: Tvu, Tvv. No condition. -/
import Derived.Test.YtmklapbecdhnmaaBaseA0
import Derived.Test.YtmklapbecdhnmaaBaseA25
set_option linter.all false
set_option linter.unusedVariables false
set_option linter.unusedSimpArgs false
namespace Go.Proofs.Ytmklapbecdhnmaa
open Go.RowKit
/-- One tree, in blocks that came behind w0, apart from what is kept. -/
def One (w0 w : World) (b n : Nat) (L : List ByteArray) (K : Nat → Prop) : Prop := ∃ O, Tr w b O n L ∧ Upd (fun _ => False) w0 w ∧ (∀ k, O k → w0.heap.size ≤ k ∧ ¬ K k) ∧ ∀ k, K k → k < w.heap.size
theorem One.base {w0 w : World} {b n : Nat} {L : List ByteArray} {K : Nat → Prop} (h : One w0 w b n L K) : Upd (fun _ => False) w0 w := by
  obtain ⟨O, h1, h2, h3, h4⟩ := h
  exact h2
theorem One.tr {w0 w : World} {b n : Nat} {L : List ByteArray} {K : Nat → Prop} (h : One w0 w b n L K) : ∃ O, Tr w b O n L := by
  obtain ⟨O, h1, h2, h3, h4⟩ := h
  exact ⟨O, h1⟩
theorem One.newer {w0 w w' : World} {b n : Nat} {L : List ByteArray} {K : Nat → Prop} (h : One w0 w b n L K) (hu : Upd (fun _ => False) w w') : One w0 w' b n L K := by
  obtain ⟨O, h1, h2, h3, h4⟩ := h
  exact ⟨O, h1.newer hu, h2.then hu (fun _ _ e => e), h3, fun k hk => Nat.lt_of_lt_of_le (h4 k hk) hu.size⟩
theorem One.mono {w0 w : World} {b n m : Nat} {L : List ByteArray} {K : Nat → Prop} (h : One w0 w b n L K) (hm : n ≤ m) : One w0 w b m L K := by
  obtain ⟨O, h1, h2⟩ := h
  exact ⟨O, h1.mono hm, h2⟩
/-- One row more is kept. -/
theorem One.keep {w0 w w' : World} {b n : Nat} {L : List ByteArray} {K : Nat → Prop} {v : Value} (h : One w0 w b n L K) (hu : Upd (fun _ => False) w w') (hv : ∀ g, v.ownBlock = some g → w.heap.size ≤ g ∧ g < w'.heap.size) : One w0 w' b n L (fun q => K q ∨ v.ownBlock = some q) := by
  obtain ⟨O, h1, h2, h3, h4⟩ := h
  refine ⟨O, h1.newer hu, h2.then hu (fun _ _ e => e), fun k hk => ⟨(h3 k hk).1, fun e => ?_⟩, fun k hk => ?_⟩
  · rcases e with e | e
    · exact (h3 k hk).2 e
    · have := h1.lt hk; have := (hv k e).1; omega
  · rcases hk with e | e
    · exact Nat.lt_of_lt_of_le (h4 k e) hu.size
    · exact (hv k e).2
def OneP (w0 w : World) (b n : Nat) (L : List ByteArray) (K : Nat → Prop) (w' : World) : Prop := One w0 w' b n L K ∧ Upd (fun q => ¬ K q) w w'
theorem One.step {w0 w w' : World} {b n n' : Nat} {L L' : List ByteArray} {K O : Nat → Prop} (h1 : Tr w b O n L) (h2 : Upd (fun _ => False) w0 w) (h3 : ∀ k, O k → w0.heap.size ≤ k ∧ ¬ K k) (h4 : ∀ k, K k → k < w.heap.size) (hp : TrP w b O n' L' w') : OneP w0 w b n' L' K w' := by
  obtain ⟨O', a1, a2, a3⟩ := hp
  refine ⟨⟨O', a1, h2.then a2 (fun k hk e => by have := (h3 k e).1; omega), fun k hk => ?_, fun k hk => Nat.lt_of_lt_of_le (h4 k hk) a2.size⟩, a2.mono (fun k _ e => (h3 k e).2)⟩
  rcases a3 k hk with e | e
  · exact h3 k e
  · have hs := h2.size
    exact ⟨by omega, fun e2 => by have := h4 k e2; omega⟩
theorem Set_o {w0 w : World} {b n : Nat} {L : List ByteArray} {K : Nat → Prop} (h : One w0 w b n L K) (hn : n + 24 ≤ 600000) (line : ByteArray) (hl : line.size ≤ 140737488351232) (i : Int) :
    Calls Try.prog 20 #[.pointer (some ⟨b, 0, none⟩), .int .i64 i, .string line] w fun e w' => e = .returned (.bool (decide (0 ≤ i ∧ i < (L.length : Int)))) ∧ OneP w0 w b n (setM L i line) K w' := by
  obtain ⟨O, h1, h2, h3, h4⟩ := h
  exact (Set_tr h1 hn line hl i).mono (fun e w' ⟨q1, q2⟩ => ⟨q1, One.step h1 h2 h3 h4 q2⟩)
theorem Delete_o {w0 w : World} {b n : Nat} {L : List ByteArray} {K : Nat → Prop} (h : One w0 w b n L K) (hn : n + 24 ≤ 600000) (i : Int) :
    Calls Try.prog 21 #[.pointer (some ⟨b, 0, none⟩), .int .i64 i] w fun e w' => e = .returned (.bool (decide (0 ≤ i ∧ i < (L.length : Int)))) ∧ OneP w0 w b (if 0 ≤ i ∧ i < (L.length : Int) then n else n + 12) (delM L i) K w' := by
  obtain ⟨O, h1, h2, h3, h4⟩ := h
  exact (Delete_tr h1 hn i).mono (fun e w' ⟨q1, q2⟩ => ⟨q1, One.step h1 h2 h3 h4 q2⟩)
theorem Splice_o {w0 w : World} {b n : Nat} {L : List ByteArray} {K : Nat → Prop} (h : One w0 w b n L K) (i k : Int) (v : Value) (new : List ByteArray) (hn : n + 24 * (new.length + 1) ≤ 600000) {F : Nat → Prop} (hv : Rds F w v new) (hF : ∀ q, F q → q < w0.heap.size ∨ K q) (hs : ∀ s ∈ new, s.size ≤ 140737488351232) :
    Calls Try.prog 26 #[.pointer (some ⟨b, 0, none⟩), .int .i64 i, .int .i64 k, v] w fun e w' => e = .returned (.bool (decide (0 ≤ i ∧ 0 ≤ k ∧ i + k ≤ (L.length : Int)))) ∧ OneP w0 w b (n + 24 * new.length) (splM L i k new) K w' := by
  obtain ⟨O, h1, h2, h3, h4⟩ := h
  refine (Splice_tr h1 i k v new hn hv (fun q hq ho => ?_) hs).mono (fun e w' ⟨q1, q2⟩ => ⟨q1, One.step h1 h2 h3 h4 q2⟩)
  have := h3 q ho
  rcases hF q hq with e | e
  · omega
  · exact this.2 e
theorem Get_o {w0 w : World} {b n : Nat} {L : List ByteArray} {K : Nat → Prop} (h : One w0 w b n L K) (hn : n ≤ 600000) (i : Int) :
    Calls Try.prog 19 #[.pointer (some ⟨b, 0, none⟩), .int .i64 i] w fun e w' => e = .returned (.tuple #[.string (if 0 ≤ i ∧ i < (L.length : Int) then L.getD i.toNat ⟨#[]⟩ else ⟨#[]⟩), .bool (decide (0 ≤ i ∧ i < (L.length : Int)))]) ∧ One w0 w' b n L K ∧ From w w' := by
  obtain ⟨O, ht⟩ := h.tr
  exact (Get_tr ht hn i).mono (fun e w' ⟨q1, q2⟩ => ⟨q1, h.newer (false_upd2 q2), q2⟩)
theorem New_o {w0 w : World} {F : Nat → Prop} (v : Value) (ls : List ByteArray) (hb : Upd (fun _ => False) w0 w) (hv : Rds F w v ls) (hs : ∀ s ∈ ls, s.size ≤ 140737488351232) (hn : 24 * (ls.length + 2) ≤ 600000) :
    Calls Try.prog 11 #[v] w fun e w' => ∃ b, e = .returned (.pointer (some ⟨b, 0, none⟩)) ∧ One w0 w' b (1 + 24 * ls.length) ls (fun _ => False) ∧ Upd (fun _ => False) w w' :=
  (New_tr v ls hv hs hn).mono (fun e w' ⟨b, O, q1, q2, q3, q4⟩ => ⟨b, q1, ⟨O, q2, hb.then q3 (fun _ _ e => e), fun k hk => ⟨Nat.le_trans hb.size (q4 k hk), fun e => e⟩, fun k e => e.elim⟩, q3⟩)
set_option maxRecDepth 100000 in
set_option maxHeartbeats 16000000 in
theorem parts_law {w : World} (la : Option Addr) (lc : Nat) (ls : List ByteArray) (hl : LinesIn w la lc ls) (i : Int) (hi1 : -9223372036854775808 ≤ i) (hi2 : i ≤ 9223372036854775807) (s : ByteArray) (hsb : s.size ≤ 140737488351232) :
    Calls Try.prog 4 #[.slice la ls.length lc, .int .i64 i, .string s] w fun e w' => e = .returned (.bool true) ∧ Below w.heap.size w w' := by
  obtain ⟨hr, hs⟩ := hl
  have HR := Lib.hid hr
  have HSZ := Lib.hid hs
  have hlm := hr.len.2
  unfold maxLen at hlm
  obtain ⟨N, hN⟩ : ∃ N, ls.length = N := ⟨_, rfl⟩
  rw [hN] at HR hlm
  have HN := Lib.hid hN
  rw [hN]
  obtain ⟨i0, hi0, hz0, hz3, hz4⟩ := info_parts info_str1
  clear hr hs hN
  by_cases q1 : 300 < N
  · have q1i : (300 : Int) < (N : Int) := by omega
    go_enter Try.func4, Try.ntmps4
    go_wp2_with (first
      | (go_at_call 10; refine (known_any _).mono ?_; rintro e w2 ⟨rfl, hu2⟩))
    go_ret
    exact ⟨rfl, upd_base hu2⟩
  by_cases q2 : N = 0
  · subst q2
    go_enter Try.func4, Try.ntmps4
    go_wp2_with (first
      | (go_at_call 10; refine (known_any _).mono ?_; rintro e w2 ⟨rfl, hu2⟩))
    go_ret
    exact ⟨rfl, upd_base hu2⟩
  have q1i : ¬ (300 : Int) < (N : Int) := by omega
  have q2i : ((N : Int) == 0) = false := by simp; omega
  have q2j : ¬ (N : Int) = 0 := by omega
  obtain ⟨k, hk⟩ : ∃ k, max i 0 % (N : Int) = k := ⟨_, rfl⟩
  have hk0 : 0 ≤ k ∧ k < (N : Int) := by rw [← hk]; exact ⟨Int.emod_nonneg _ (by omega), Int.emod_lt_of_pos _ (by omega)⟩
  obtain ⟨j, rfl⟩ : ∃ j : Nat, k = (j : Int) := ⟨k.toNat, by omega⟩
  have hjN : j < N := by omega
  have hmod : (max i 0).tmod (N : Int) = (j : Int) := by rw [← hk]; exact Int.tmod_eq_emod_of_nonneg (Int.le_max_right _ _)
  clear hk
  go_enter Try.func4, Try.ntmps4
  go_upto_region 3 with (first
    | (go_at_call 10; refine (known_any _).mono ?_; rintro e w2 ⟨rfl, hu2⟩))
  have HU2 := Lib.hid hu2
  clear hu2
  go_upto_region 7 with (first
    | (go_at_call 11; refine (New_o _ ls HU2.out (HR.out.upd HU2.out (fun _ _ e => e)) HSZ.out (by rw [HN.out]; omega)).mono ?_; rintro e w3 ⟨bt, rfl, h3, hu3⟩))
  have H3 := Lib.hid (h3.mono (m := 7201) (by rw [HN.out]; omega))
  clear h3 hu3 HU2
  have HP3 : Hid (Calls Try.prog 18 #[.pointer (some ⟨bt, 0, none⟩), .int .i64 0, .int .i64 (j : Int)] w3 (PPost w3 true (ls.take j))) := Lib.hid (by
    obtain ⟨O3, ht3⟩ := H3.out.tr
    have := Part_tr ht3 (by omega) 0 (j : Int)
    rw [decide_eq_true (by rw [HN.out]; omega), if_pos (by rw [HN.out]; omega), show (0 : Int).toNat = 0 from rfl, Int.toNat_natCast, List.drop_zero] at this
    exact this)
  go_upto_region 8 with (first
    | (go_at_call 18; refine HP3.out.mono ?_; rintro e w4 ⟨v4, rfl, hr4, hu4, hn4⟩))
  have H4 := Lib.hid (H3.out.newer hu4)
  have HR4 := Lib.hid hr4
  clear hr4 hu4 hn4 HP3
  have gs : IntKind.i64.wrap ((N : Int) - (j : Int)) = ((N - j : Nat) : Int) := by rw [IntWalk.i64_in _ (by omega)]; omega
  have HP4 : Hid (Calls Try.prog 18 #[.pointer (some ⟨bt, 0, none⟩), .int .i64 (j : Int), .int .i64 ((N - j : Nat) : Int)] w4 (PPost w4 true (ls.drop j))) := Lib.hid (by
    obtain ⟨O3, ht3⟩ := H4.out.tr
    have := Part_tr ht3 (by omega) (j : Int) ((N - j : Nat) : Int)
    rw [decide_eq_true (by rw [HN.out]; omega), if_pos (by rw [HN.out]; omega), Int.toNat_natCast, Int.toNat_natCast, List.take_of_length_le (by rw [List.length_drop, HN.out]; exact Nat.le_refl _)] at this
    exact this)
  obtain ⟨q, hq⟩ : ∃ q, N - j = q := ⟨_, rfl⟩
  rw [hq] at gs HP4
  clear hq
  go_upto_region 9 with (first
    | (go_at_call 18; refine HP4.out.mono ?_; rintro e w5 ⟨v5, rfl, hr5, hu5, hn5⟩))
  have H5 := Lib.hid (H4.out.newer hu5)
  have HR5 := Lib.hid hr5
  have HR45 := Lib.hid (HR4.out.upd hu5 (fun _ _ e => e))
  have hl4 : (strsC (ls.take j)).length = j := by rw [strsC, List.length_map, List.length_take, HN.out]; omega
  have hl5 : (strsC (ls.drop j)).length ≤ 300 := by rw [strsC, List.length_map, List.length_drop, HN.out]; omega
  have HL4 := Lib.hid hl4
  have HL5 := Lib.hid hl5
  clear hr5 hu5 hn5 HP4 gs H3 H4 HR4 hl4 hl5
  go_upto_region 11 with (first
    | (at_builtin; refine wpList_append_rows _ rfl _ _ 22 rfl 9 i0 _ 16 Try.underlying22 hi0 hz0 hz3 hz4 rfl (.slice none 0 0) rfl [] (.nil _ _) v4 rfl (strsC (ls.take j)) HR45.out (strsC_ones _) (by rw [HL4.out]; unfold maxLen; simp only [List.length_nil]; omega) (by rw [HL4.out]; simp only [List.length_nil]; omega) ?_; intro v6 w6 hr6 hu6 hn6))
  rw [List.nil_append] at hr6
  have HU6 : Hid (Upd (fun _ => False) w5 w6) := Lib.hid (hu6.mono (fun _ _ e => by cases e))
  have HN6 : Hid (∀ g, v6.ownBlock = some g → w5.heap.size ≤ g) := Lib.hid (fun g hg => by
    rcases hn6 g hg with e | e
    · cases e
    · exact e)
  have HR6 := Lib.hid hr6
  have HR56 := Lib.hid (HR5.out.upd HU6.out (fun _ _ e => e))
  clear hr6 hu6 hn6 HR45 HR5
  go_upto_region 12 with (first
    | (at_builtin; refine wpList_append_rows _ rfl _ _ 22 rfl 9 i0 _ 16 Try.underlying22 hi0 hz0 hz3 hz4 rfl v6 rfl (strsC (ls.take j)) HR6.out v5 rfl (strsC (ls.drop j)) HR56.out (strsC_ones _) (by have := HL4.out; have := HL5.out; unfold maxLen; omega) (by have := HL4.out; have := HL5.out; omega) ?_; intro v7 w7 hr7 hu7 hn7))
  have HU7 : Hid (Upd (fun _ => False) w5 w7) := Lib.hid (HU6.out.then hu7 (fun g hg e => by have := HN6.out g e; omega))
  have HR7 : Hid (Row w7 9 v7 (strsC ls)) := Lib.hid (by
    have : strsC (ls.take j) ++ strsC (ls.drop j) = strsC ls := by unfold strsC; rw [← List.map_append, List.take_append_drop]
    rw [this] at hr7
    exact hr7)
  have H7 : Hid (One w w7 bt 7201 ls (fun q => (fun _ => False) q ∨ v7.ownBlock = some q)) := Lib.hid (H5.out.keep HU7.out (fun g hg => ⟨by
    rcases hn7 g hg with e | e
    · exact HN6.out g e
    · exact Nat.le_trans HU6.out.size e, HR7.out.lt hg⟩))
  clear hr7 hu7 hn7 HR6 HR56 HN6 HU6 HU7 H5 HL4 HL5
  have hjl : j < ls.length := by rw [HN.out]; exact hjN
  obtain ⟨x, hx⟩ : ∃ x, ls[j] = x := ⟨_, rfl⟩
  have hxs : x.size ≤ 140737488351232 := by rw [← hx]; exact HSZ.out _ (List.getElem_mem hjl)
  have e1 : setM ls (j : Int) s = ls.set j s := by unfold setM; rw [if_pos (by rw [HN.out]; omega), Int.toNat_natCast]
  have e2 : setM (ls.set j s) (j : Int) x = ls := by
    unfold setM
    rw [if_pos (by rw [List.length_set, HN.out]; omega), Int.toNat_natCast, List.set_set, ← hx, List.set_getElem_self]
  have g7 := Get_o H7.out (by omega) (j : Int)
  rw [if_pos (by rw [HN.out]; omega), decide_eq_true (by rw [HN.out]; omega), Int.toNat_natCast, List.getD_eq_getElem?_getD, List.getElem?_eq_getElem hjl, Option.getD_some, hx] at g7
  have G7 := Lib.hid g7
  have E1 := Lib.hid e1
  have E2 := Lib.hid e2
  clear g7 e1 e2 hx
  go_upto_region 13 with (first
    | (go_at_call 19; refine G7.out.mono ?_; rintro e w8 ⟨rfl, h8, hq8⟩))
  have H8 := Lib.hid h8
  have HR8 := Lib.hid (HR7.out.upd (false_upd2 hq8) (fun _ _ e => e))
  clear h8 hq8 G7 H7 HR7
  have g8 := Set_o H8.out (by omega) s hsb (j : Int)
  rw [decide_eq_true (by rw [HN.out]; omega), E1.out] at g8
  have G8 := Lib.hid g8
  clear g8
  go_upto_region 14 with (first
    | (go_at_call 20; refine G8.out.mono ?_; rintro e w9 ⟨rfl, h9, hu9⟩))
  have H9 := Lib.hid h9
  have HR9 := Lib.hid (HR8.out.upd hu9 (fun b hb e => e (.inr hb)))
  clear h9 hu9 G8 H8 HR8
  have g9 := Get_o H9.out (by omega) (j : Int)
  rw [if_pos (by rw [List.length_set, HN.out]; omega), decide_eq_true (by rw [List.length_set, HN.out]; omega), Int.toNat_natCast, List.getD_eq_getElem?_getD, List.getElem?_set_self (by rw [HN.out]; exact hjN), Option.getD_some] at g9
  have G9 := Lib.hid g9
  clear g9
  go_upto_region 15 with (first
    | (go_at_call 19; refine G9.out.mono ?_; rintro e w10 ⟨rfl, h10, hq10⟩))
  have H10 := Lib.hid h10
  have HR10 := Lib.hid (HR9.out.upd (false_upd2 hq10) (fun _ _ e => e))
  clear h10 hq10 G9 H9 HR9
  have g10 := Set_o H10.out (by omega) x hxs (j : Int)
  rw [decide_eq_true (by rw [List.length_set, HN.out]; omega), E2.out] at g10
  have G10 := Lib.hid g10
  clear g10
  go_upto_region 16 with (first
    | (go_at_call 20; refine G10.out.mono ?_; rintro e w11 ⟨rfl, h11, hu11⟩))
  have H11 := Lib.hid h11
  have HR11 := Lib.hid (HR10.out.upd hu11 (fun b hb e => e (.inr hb)))
  have HRW := Lib.hid (HR.out.upd H11.out.base (fun _ _ e => e))
  clear h11 hu11 G10 H10 HR10 E1 E2 hjl
  have HSet : Hid (∀ w', One w w' bt 7201 ls (fun q => (fun _ => False) q ∨ v7.ownBlock = some q) → Calls Try.prog 20 #[.pointer (some ⟨bt, 0, none⟩), .int .i64 (N : Int), .string s] w' fun e w'' => e = .returned (.bool false) ∧ Upd (fun _ => False) w w'') := Lib.hid (fun w' h => by
    have := Set_o h (by omega) s hsb (N : Int)
    rw [decide_eq_false (by rw [HN.out]; omega)] at this
    exact this.mono (fun e w'' ⟨q1, q2, _⟩ => ⟨q1, q2.base⟩))
  have HLI : Hid (∀ w', One w w' bt 7201 ls (fun q => (fun _ => False) q ∨ v7.ownBlock = some q) → Calls Try.prog 14 #[.pointer (some ⟨bt, 0, none⟩)] w' (LPost w' ls)) := Lib.hid (fun w' h => by
    obtain ⟨O, ht⟩ := h.tr
    exact Lines_tr ht (by omega))
  go_wp2_with (first
    | (go_at_call 13; (with_reducible refine (Same_any (Rds.of_row HR11.out) HRW.out rfl true (decide_eq_true rfl)).mono ?_); rintro e w12 ⟨rfl, hq12⟩; have H12 := Lib.hid (H11.out.newer (false_upd2 hq12)); replace HRW := Lib.hid (HRW.out.upd (false_upd2 hq12) (fun _ _ e => e)); clear hq12 HR11)
    | (go_at_call 14; refine (HLI.out _ H12.out).mono ?_; rintro e w13 ⟨v13, rfl, hr13, hu13, hn13⟩; have HR13 := Lib.hid hr13; have H13 := Lib.hid (H12.out.newer hu13); replace HRW := Lib.hid (HRW.out.upd hu13 (fun _ _ e => e)); clear hr13 hu13 hn13)
    | (go_at_call 13; (with_reducible refine (Same_any (Rds.of_row HR13.out) HRW.out rfl true (decide_eq_true rfl)).mono ?_); rintro e w14 ⟨rfl, hq14⟩; have H14 := Lib.hid (H13.out.newer (false_upd2 hq14)); clear hq14)
    | (go_at_call 20; refine (HSet.out _ H14.out).mono ?_; rintro e w15 ⟨rfl, hu15⟩))
  go_ret
  exact ⟨rfl, upd_base hu15⟩
end Go.Proofs.Ytmklapbecdhnmaa
namespace Go.Proofs.Ytmklapbecdhnmaa
open Go.RowKit
theorem splice_back {α : Type} (ls more : List α) (a k : Nat) (h : a + k ≤ ls.length) : spliceL (spliceL ls a k more) a more.length ((ls.drop a).take k) = ls := by
  have ha : (ls.take a).length = a := by rw [List.length_take]; omega
  unfold spliceL
  have h1 : (ls.take a ++ (more ++ ls.drop (a + k))).take a = ls.take a := List.take_left' ha
  have h2 : (ls.take a ++ (more ++ ls.drop (a + k))).drop (a + more.length) = ls.drop (a + k) := by
    rw [← List.append_assoc]
    exact List.drop_left' (by rw [List.length_append, ha])
  rw [h1, h2, ← List.drop_drop, List.take_append_drop, List.take_append_drop]
set_option maxRecDepth 100000 in
set_option maxHeartbeats 16000000 in
theorem splits_law {w : World} (la : Option Addr) (lc : Nat) (ls : List ByteArray) (hl : LinesIn w la lc ls) (i : Int) (hi1 : -9223372036854775808 ≤ i) (hi2 : i ≤ 9223372036854775807) (n : Int) (hn1 : -9223372036854775808 ≤ n) (hn2 : n ≤ 9223372036854775807) (ma : Option Addr) (mc : Nat) (ms : List ByteArray) (hm : LinesIn w ma mc ms) :
    Calls Try.prog 7 #[.slice la ls.length lc, .int .i64 i, .int .i64 n, .slice ma ms.length mc] w fun e w' => e = .returned (.bool true) ∧ Below w.heap.size w w' := by
  obtain ⟨hr, hs⟩ := hl
  obtain ⟨hrm, hsm⟩ := hm
  have HR := Lib.hid hr
  have HSZ := Lib.hid hs
  have HRM := Lib.hid hrm
  have HSM := Lib.hid hsm
  have hlm := hr.len.2
  have hmm := hrm.len.2
  unfold maxLen at hlm hmm
  obtain ⟨N, hN⟩ : ∃ N, ls.length = N := ⟨_, rfl⟩
  obtain ⟨M, hM⟩ : ∃ M, ms.length = M := ⟨_, rfl⟩
  rw [hN] at HR hlm
  rw [hM] at HRM hmm
  have HN := Lib.hid hN
  have HM := Lib.hid hM
  rw [hN, hM]
  clear hr hs hN hrm hsm hM
  by_cases q1 : 300 < N
  · have q1i : (300 : Int) < (N : Int) := by omega
    go_enter Try.func7, Try.ntmps7
    go_wp2_with (first
      | (go_at_call 10; refine (known_any _).mono ?_; rintro e w2 ⟨rfl, hu2⟩))
    go_ret
    exact ⟨rfl, upd_base hu2⟩
  have q1i : ¬ (300 : Int) < (N : Int) := by omega
  by_cases q2 : 100 < M
  · have q2i : (100 : Int) < (M : Int) := by omega
    go_enter Try.func7, Try.ntmps7
    go_wp2_with (first
      | (go_at_call 10; refine (known_any _).mono ?_; rintro e w2 ⟨rfl, hu2⟩))
    go_ret
    exact ⟨rfl, upd_base hu2⟩
  have q2i : ¬ (100 : Int) < (M : Int) := by omega
  obtain ⟨k, hk⟩ : ∃ k, max i 0 % ((N : Int) + 1) = k := ⟨_, rfl⟩
  have hk0 : 0 ≤ k ∧ k < (N : Int) + 1 := by rw [← hk]; exact ⟨Int.emod_nonneg _ (by omega), Int.emod_lt_of_pos _ (by omega)⟩
  obtain ⟨a, rfl⟩ : ∃ a : Nat, k = (a : Int) := ⟨k.toNat, by omega⟩
  have haN : a ≤ N := by omega
  have hmod : (max i 0).tmod ((N : Int) + 1) = (a : Int) := by rw [← hk]; exact Int.tmod_eq_emod_of_nonneg (Int.le_max_right _ _)
  clear hk
  obtain ⟨k, hk⟩ : ∃ k, max n 0 % ((N : Int) - (a : Int) + 1) = k := ⟨_, rfl⟩
  have hk1 : 0 ≤ k ∧ k < (N : Int) - (a : Int) + 1 := by rw [← hk]; exact ⟨Int.emod_nonneg _ (by omega), Int.emod_lt_of_pos _ (by omega)⟩
  obtain ⟨b, rfl⟩ : ∃ b : Nat, k = (b : Int) := ⟨k.toNat, by omega⟩
  have habN : a + b ≤ N := by omega
  have hmod2 : (max n 0).tmod ((N : Int) - (a : Int) + 1) = (b : Int) := by rw [← hk]; exact Int.tmod_eq_emod_of_nonneg (Int.le_max_right _ _)
  clear hk hk0 hk1
  have gs1 : IntKind.i64.wrap ((N : Int) + 1) = (N : Int) + 1 := IntWalk.i64_in _ (by omega)
  have gs2 : IntKind.i64.wrap ((N : Int) - (a : Int)) = (N : Int) - (a : Int) := IntWalk.i64_in _ (by omega)
  have gs3 : IntKind.i64.wrap ((N : Int) - (a : Int) + 1) = (N : Int) - (a : Int) + 1 := IntWalk.i64_in _ (by omega)
  have gz1 : ¬ (N : Int) + 1 = 0 := by omega
  have gz2 : ¬ (N : Int) - (a : Int) + 1 = 0 := by omega
  go_enter Try.func7, Try.ntmps7
  go_upto_region 3 with (first
    | (go_at_call 10; refine (known_any _).mono ?_; rintro e w2 ⟨rfl, hu2⟩))
  have HU2 := Lib.hid hu2
  clear hu2
  go_upto_region 8 with (first
    | (go_at_call 11; refine (New_o _ ls HU2.out (HR.out.upd HU2.out (fun _ _ e => e)) HSZ.out (by rw [HN.out]; omega)).mono ?_; rintro e w3 ⟨bt, rfl, h3, hu3⟩))
  have H3 := Lib.hid (h3.mono (m := 7201) (by rw [HN.out]; omega))
  have HP3 : Hid (Calls Try.prog 18 #[.pointer (some ⟨bt, 0, none⟩), .int .i64 (a : Int), .int .i64 (b : Int)] w3 (PPost w3 true ((ls.drop a).take b))) := Lib.hid (by
    obtain ⟨O3, ht3⟩ := H3.out.tr
    have := Part_tr ht3 (by omega) (a : Int) (b : Int)
    rw [decide_eq_true (by rw [HN.out]; omega), if_pos (by rw [HN.out]; omega), Int.toNat_natCast, Int.toNat_natCast] at this
    exact this)
  clear h3 hu3 HU2 hmod hmod2 gs1 gs2 gs3 gz1 gz2
  go_upto_region 9 with (first
    | (go_at_call 18; refine HP3.out.mono ?_; rintro e w4 ⟨v4, rfl, hr4, hu4, hn4⟩))
  have H4 := Lib.hid (H3.out.keep hu4 (fun g hg => ⟨hn4 g hg, hr4.lt hg⟩))
  have HR4 := Lib.hid hr4
  clear hr4 hu4 hn4 HP3 H3
  have s4 := Splice_o H4.out (a : Int) (b : Int) _ ms (by rw [HM.out]; omega) (HRM.out.upd H4.out.base (fun _ _ e => e)) (fun q hq => .inl hq) HSM.out
  rw [decide_eq_true (by rw [HN.out]; omega), show splM ls (a : Int) (b : Int) ms = spliceL ls a b ms by unfold splM; rw [if_pos (by rw [HN.out]; omega), Int.toNat_natCast, Int.toNat_natCast]] at s4
  have S4 := Lib.hid s4
  clear s4
  go_upto_region 10 with (first
    | (go_at_call 26; refine S4.out.mono ?_; rintro e w5 ⟨rfl, h5, hu5⟩))
  have H5 := Lib.hid (h5.mono (m := 9601) (by rw [HM.out]; omega))
  have HR5 := Lib.hid (HR4.out.upd hu5 (fun g hg e => e (.inr hg)))
  obtain ⟨L, hL⟩ : ∃ L, spliceL ls a b ms = L := ⟨_, rfl⟩
  have hlen := splice_len ls a b ms (by rw [HN.out]; omega)
  have hback := splice_back ls ms a b (by rw [HN.out]; omega)
  rw [hL] at H5 hlen hback
  rw [HM.out] at hback
  rw [HN.out, HM.out] at hlen
  obtain ⟨Q, hQ⟩ : ∃ Q, L.length = Q := ⟨_, rfl⟩
  rw [hQ] at hlen
  have HQ := Lib.hid hQ
  have HBK := Lib.hid hback
  clear h5 hu5 S4 H4 HR4 hL hback hQ
  have HL5 : Hid (Calls Try.prog 14 #[.pointer (some ⟨bt, 0, none⟩)] w5 (LPost w5 L)) := Lib.hid (by
    obtain ⟨O, ht⟩ := H5.out.tr
    exact Lines_tr ht (by omega))
  go_upto_region 11 with (first
    | (go_at_call 14; refine HL5.out.mono ?_; rintro e w6 ⟨v6, rfl, hr6, hu6, hn6⟩))
  have H6 := Lib.hid (H5.out.newer hu6)
  have HR6 := Lib.hid (HR5.out.upd hu6 (fun _ _ e => e))
  obtain ⟨va, vc, e6⟩ := hr6.form
  rw [show (strsC L).length = Q by rw [strsC, List.length_map, HQ.out]] at e6
  subst e6
  have HA6 := Lib.hid (Rds.of_row hr6)
  clear hr6 hu6 hn6 HL5 H5 HR5
  go_wp2
  go_loopg [16] Q (fun gk iv wr => ∃ j : Nat, iv = .int .i64 (j : Int) ∧ j + gk = Q ∧ Hid (One w wr bt 9601 L (fun q => (fun _ => False) q ∨ v4.ownBlock = some q)) ∧ Hid (Upd (fun _ => False) w6 wr))
  case atStart => exact ⟨0, rfl, by omega, H6, Lib.hid (Upd.refl _ _)⟩
  case round =>
    obtain ⟨j, rfl, hgk, HO, HU⟩ := hrel
    by_cases hlt : j < Q
    · have hjl : j < L.length := by rw [HQ.out]; exact hlt
      obtain ⟨g, o, rfl, e1⟩ := HA6.out.at j hjl
      have g7 := Get_o HO.out (by omega) (j : Int)
      rw [if_pos (by rw [HQ.out]; omega), decide_eq_true (by rw [HQ.out]; omega), Int.toNat_natCast, List.getD_eq_getElem?_getD, List.getElem?_eq_getElem hjl, Option.getD_some] at g7
      obtain ⟨x, hx⟩ : ∃ x, L[j] = x := ⟨_, rfl⟩
      rw [hx] at e1 g7
      have G7 := Lib.hid g7
      have HE1 : Hid (∀ w', Upd (fun _ => False) w6 w' → w'.cell? ⟨g, o + j, none⟩ = some (.string x)) := Lib.hid (fun w' h => h.cell e1 (fun e => e))
      clear g7 hx e1
      go_wp2_with (first
        | (go_at_call 19; refine G7.out.mono ?_; rintro e w8 ⟨rfl, h8, hq8⟩; have H8 := Lib.hid h8; have HU8 := Lib.hid (HU.out.then (false_upd2 hq8) (fun _ _ e => e)); have e1 := HE1.out _ HU8.out; clear h8 hq8))
      go_roundg (gk - 1)
      case measure => omega
      case rel => exact ⟨j + 1, by go_num, by omega, H8, HU8⟩
    · obtain rfl : j = Q := by omega
      have HRO := Lib.hid (HR6.out.upd HU.out (fun _ _ e => e))
      have hol : ((ls.drop a).take b).length = b := by rw [List.length_take, List.length_drop, HN.out]; omega
      have s4 := Splice_o HO.out (a : Int) (M : Int) v4 ((ls.drop a).take b) (by rw [hol]; omega) (Rds.of_row HRO.out) (fun q hq => .inr (.inr hq)) (fun s hs => HSZ.out s (List.mem_of_mem_drop (List.mem_of_mem_take hs)))
      rw [decide_eq_true (by rw [HQ.out]; omega), show splM L (a : Int) (M : Int) ((ls.drop a).take b) = ls by unfold splM; rw [if_pos (by rw [HQ.out]; omega), Int.toNat_natCast, Int.toNat_natCast]; exact HBK.out, hol] at s4
      have S4 := Lib.hid s4
      have gs1 : IntKind.i64.wrap ((N : Int) - (b : Int)) = (N : Int) - (b : Int) := IntWalk.i64_in _ (by omega)
      have gs2 : IntKind.i64.wrap ((N : Int) - (b : Int) + (M : Int)) = (j : Int) := by rw [IntWalk.i64_in _ (by omega)]; omega
      have HLI : Hid (∀ w', One w w' bt (9601 + 24 * b) ls (fun q => (fun _ => False) q ∨ v4.ownBlock = some q) → Calls Try.prog 14 #[.pointer (some ⟨bt, 0, none⟩)] w' (LPost w' ls)) := Lib.hid (fun w' h => by
        obtain ⟨O, ht⟩ := h.tr
        exact Lines_tr ht (by omega))
      clear s4 hol H6 HR6 HA6 HRO HU HBK HQ
      go_wp2_with (first
        | (go_at_call 26; refine S4.out.mono ?_; rintro e w8 ⟨rfl, h8, hu8⟩; have H8 := Lib.hid h8; clear h8 hu8)
        | (go_at_call 14; refine (HLI.out _ H8.out).mono ?_; rintro e w9 ⟨v9, rfl, hr9, hu9, hn9⟩; have HR9 := Lib.hid hr9; have H9 := Lib.hid (H8.out.newer hu9); clear hr9 hu9 hn9)
        | (go_at_call 13; refine (Same_any (Rds.of_row HR9.out) (HR.out.upd H9.out.base (fun _ _ e => e)) rfl true (decide_eq_true rfl)).mono ?_; rintro e w10 ⟨rfl, hq10⟩))
      go_ret
      exact ⟨rfl, upd_base (H9.out.newer (false_upd2 hq10)).base⟩
end Go.Proofs.Ytmklapbecdhnmaa
