/- Lemmas that the law's proof stands on, part 20: Tvh, Tvi, Tvj, Tvk. No condition. -/
import Derived.Test.YtmklapbecdhnmaaBaseA0
import Derived.Test.YtmklapbecdhnmaaBaseA19
set_option linter.all false
set_option linter.unusedVariables false
set_option linter.unusedSimpArgs false
namespace Go.Proofs.Ytmklapbecdhnmaa
open Go.RowKit
theorem RPart_any {w : World} {b : Nat} {O : Nat → Prop} {L : List ByteArray} (h : RT w b O L) (i k : Int) (hk : k ≤ 9223372036854775807) :
    Calls Try.prog 42 #[.pointer (some ⟨b, 0, none⟩), .int .i64 i, .int .i64 k] w (PPost w (decide (0 ≤ i ∧ 0 ≤ k ∧ i + k ≤ (L.length : Int))) (if 0 ≤ i ∧ 0 ≤ k ∧ i + k ≤ (L.length : Int) then (L.drop i.toNat).take k.toNat else [])) := by
  by_cases hik : 0 ≤ i ∧ 0 ≤ k ∧ i + k ≤ (L.length : Int)
  · rw [if_pos hik, decide_eq_true hik]
    obtain ⟨i', rfl⟩ : ∃ n : Nat, i = (n : Int) := ⟨i.toNat, by omega⟩
    obtain ⟨k', rfl⟩ : ∃ n : Nat, k = (n : Int) := ⟨k.toNat, by omega⟩
    exact RPart_in h i' k' (by omega)
  · rw [if_neg hik, decide_eq_false hik]
    by_cases hn : i < 0 ∨ k < 0
    · exact RPart_neg i k hn
    · obtain ⟨i', rfl⟩ : ∃ n : Nat, i = (n : Int) := ⟨i.toNat, by omega⟩
      obtain ⟨k', rfl⟩ : ∃ n : Nat, k = (n : Int) := ⟨k.toNat, by omega⟩
      exact RPart_high h i' k' (by omega) (by omega)
theorem RSplice_out {w : World} {b : Nat} {O : Nat → Prop} {L : List ByteArray} (h : RT w b O L) (i k : Int) (hk : k ≤ 9223372036854775807) (v : Value) (hik : ¬ (0 ≤ i ∧ 0 ≤ k ∧ i + k ≤ (L.length : Int))) :
    Calls Try.prog 40 #[.pointer (some ⟨b, 0, none⟩), .int .i64 i, .int .i64 k, v] w fun e w' => e = .returned (.bool false) ∧ RTP w b O L w' := by
  have HH := Lib.hid h
  have hs := RPart_any h i k hk
  rw [decide_eq_false hik, if_neg hik] at hs
  have HS := Lib.hid hs
  clear h hs hik
  go_enter Try.func40, Try.ntmps40
  go_wp2_with (first
    | (go_at_call 42; refine HS.out.mono ?_; rintro e w1 ⟨v1, rfl, hr1, hu1, hn1⟩))
  go_ret
  exact ⟨rfl, O, HH.out.newer hu1, hu1.mono (fun _ _ e => e.elim), fun k hk => .inl hk⟩
set_option maxRecDepth 100000 in
set_option maxHeartbeats 16000000 in
theorem RSplice_in {w : World} {b : Nat} {O : Nat → Prop} {L : List ByteArray} (h : RT w b O L) (i k : Nat) (hik : i + k ≤ L.length) (v : Value) (new : List ByteArray) {F : Nat → Prop} (hv : Rds F w v new) (hnl : L.length + new.length ≤ 50000) (hs : ∀ s ∈ new, s.size ≤ 140737488351232) :
    Calls Try.prog 40 #[.pointer (some ⟨b, 0, none⟩), .int .i64 (i : Int), .int .i64 (k : Int), v] w fun e w' => e = .returned (.bool true) ∧ RTP w b O (spliceL L i k new) w' := by
  have HH := Lib.hid h
  obtain ⟨_, _, _, _, _, hsh, _⟩ := id h
  have hs0 := RPart_in h i k hik
  have HS := Lib.hid hs0
  obtain ⟨i0, hi0, hz0, hz3, hz4⟩ := info_parts info_str1
  obtain ⟨a, c, h1, h2⟩ := h.form
  obtain ⟨la, lc, rfl, _⟩ := id hv
  have HV := Lib.hid hv
  have HR := Lib.hid h2
  have HB := Lib.hid h1
  have hlen := splice_len L i k new hik
  have HM : Hid ((spliceL L i k new).length ≤ 50000 ∧ ∀ s ∈ spliceL L i k new, s.size ≤ 140737488351232) := Lib.hid ⟨by omega, fun s hm => by
    unfold spliceL at hm
    rcases List.mem_append.1 hm with e | e
    · exact hsh s (List.mem_of_mem_take e)
    · rcases List.mem_append.1 e with e | e
      · exact hs s e
      · exact hsh s (List.mem_of_mem_drop e)⟩
  obtain ⟨N, hN⟩ : ∃ N, L.length = N := ⟨_, rfl⟩
  obtain ⟨M, hM⟩ : ∃ M, new.length = M := ⟨_, rfl⟩
  rw [hN, hM] at hnl
  rw [hN] at hik HR HB
  rw [hM] at HV ⊢
  have HN := Lib.hid hN
  have HMM := Lib.hid hM
  have gs2 : IntKind.i64.wrap ((i : Int) + (k : Int)) = ((i + k : Nat) : Int) := by rw [IntWalk.i64_in _ (by omega)]; omega
  have HGS := Lib.hid gs2
  have hbl : b < w.heap.size := heap_lt h1
  clear hN hM h hv h1 h2 hs0 hs hsh hlen gs2
  go_enter Try.func40, Try.ntmps40
  go_upto_region 5 with (first
    | (go_at_call 42; refine HS.out.mono ?_; rintro e w1 ⟨v1, rfl, hr1, hu1, hn1⟩))
  have HU1 := Lib.hid hu1
  have k1 := hu1.heap HB.out (fun e => e)
  have c1 := cell_of k1 0 rfl
  have HR1 := Lib.hid (HR.out.upd hu1 (fun _ _ e => e))
  clear hr1 hn1 hu1 k1
  go_upto_region 6 with (first
    | ((with_reducible refine stopSl 22 _ _ _ _ rfl ?_); unfold Stop; refine wpList_cut rfl 22 9 _ _ _ rfl Try.underlying22 i0 hi0 hz3 _ rfl L HR1.out 0 i (Nat.zero_le _) (by rw [HN.out]; omega) (.inl ⟨rfl, rfl⟩) (.inr ⟨_, rfl, rfl⟩) ?_; intro a2 c2 hr2)
    | (at_builtin; refine wpList_append_rds rfl _ _ 22 rfl i0 _ Try.underlying22 hi0 hz0 hz3 hz4 rfl (.slice none 0 0) rfl [] (.nil _ _) _ rfl _ hr2 (by have := hr2.len.1; simp only [List.length_nil]; omega) ?_; intro v3 w3 hr3 hu3 hn3))
  have HU3 : Hid (Upd (fun _ => False) w w3) := Lib.hid (HU1.out.then hu3 (fun k _ e => by cases e))
  have HN3 : Hid (∀ g, v3.ownBlock = some g → w.heap.size ≤ g) := Lib.hid (fun g hg => by
    rcases hn3 g hg with e | e
    · cases e
    · have := HU1.out.size; omega)
  have HR3 : Hid (Row w3 9 v3 (strsC (L.take i))) := Lib.hid (by
    rw [List.nil_append, List.drop_zero] at hr3
    exact hr3)
  clear hr3 hu3 hn3 hr2 c1
  have HL3 : Hid ((L.take i).length ≤ 50000) := Lib.hid (by rw [List.length_take, HN.out]; omega)
  go_upto_region 7 with (first
    | (at_builtin; refine wpList_append_rds rfl _ _ 22 rfl i0 _ Try.underlying22 hi0 hz0 hz3 hz4 rfl _ rfl _ HR3.out _ rfl new (HV.out.upd HU3.out (fun _ _ e => e)) (by have := HL3.out; rw [HMM.out]; omega) ?_; intro v5 w5 hr5 hu5 hn5))
  have HU5 : Hid (Upd (fun _ => False) w w5) := Lib.hid (HU3.out.then hu5 (fun k _ e => by have := HN3.out k e; omega))
  have HN5 : Hid (∀ g, v5.ownBlock = some g → w.heap.size ≤ g) := Lib.hid (fun g hg => by
    rcases hn5 g hg with e | e
    · exact HN3.out g e
    · have := HU3.out.size; omega)
  have HR5 : Hid (Row w5 9 v5 (strsC (L.take i ++ new))) := Lib.hid hr5
  have HL5 : Hid ((L.take i ++ new).length ≤ 50000) := Lib.hid (by rw [List.length_append, List.length_take, HN.out, HMM.out]; omega)
  clear hr5 hu5 hn5
  have k5 := HU5.out.heap HB.out (fun e => e)
  have c5 := cell_of k5 0 rfl
  have HRr5 := Lib.hid (HR.out.upd HU5.out (fun _ _ e => e))
  have gs2 := HGS.out
  clear k5
  go_upto_region 8 with (first
    | ((with_reducible refine stopSl 22 _ _ _ _ rfl ?_); unfold Stop; refine wpList_cut rfl 22 9 _ _ _ rfl Try.underlying22 i0 hi0 hz3 _ rfl L HRr5.out (i + k) N hik (by rw [HN.out]; exact Nat.le_refl _) (.inr ⟨_, rfl, rfl⟩) (.inl ⟨rfl, HN.out.symm⟩) ?_; intro a6 c6 hr6)
    | (at_builtin; refine wpList_append_rds rfl _ _ 22 rfl i0 _ Try.underlying22 hi0 hz0 hz3 hz4 rfl _ rfl _ HR5.out _ rfl _ hr6 (by have := hr6.len.1; have := HL5.out; omega) ?_; intro v7 w7 hr7 hu7 hn7))
  have HU7 : Hid (Upd (fun _ => False) w w7) := Lib.hid (HU5.out.then hu7 (fun k _ e => by have := HN5.out k e; omega))
  have HN7 : Hid (∀ g, v7.ownBlock = some g → w.heap.size ≤ g) := Lib.hid (fun g hg => by
    rcases hn7 g hg with e | e
    · exact HN5.out g e
    · have := HU5.out.size; omega)
  have hR7 : Row w7 9 v7 (strsC (spliceL L i k new)) := by
    rw [List.take_of_length_le (l := L) (i := N) (by rw [HN.out]; exact Nat.le_refl _), List.append_assoc] at hr7
    exact hr7
  obtain ⟨a7, c7, e7⟩ := hR7.form
  obtain ⟨n7, hn7'⟩ : ∃ n, (strsC (spliceL L i k new)).length = n := ⟨_, rfl⟩
  rw [hn7'] at e7
  subst e7
  have HR7 := Lib.hid hR7
  have k7 := HU7.out.heap HB.out (fun e => e)
  clear hr7 hu7 hn7 hR7 hn7' gs2 c5 hr6
  go_wp2_with (first
    | ((with_reducible refine stopSt 22 _ _ rfl ?_); unfold Stop; refine wpList_store_blk rfl 22 _ _ rfl b 0 rfl (.slice a7 n7 c7) rfl #[.slice a N c] #[.slice a7 n7 c7] _ k7 (zzB rfl) (by kernel_rfl) rfl rfl ?_; intro w8 k8 hu8 hs8))
  go_ret
  refine ⟨rfl, fun q => q = b ∨ Value.ownBlock (.slice a7 n7 c7) = some q, RT.put (HH.out.newer HU7.out) HR7.out (fun g hg => by have := HN7.out g hg; omega) hu8 k8 HM.out.1 HM.out.2 _ (fun q => Iff.rfl), (HU7.out.mono (fun _ _ e => e.elim)).then hu8 (fun q _ e => by rw [e]; exact HH.out.own), fun q hq => ?_⟩
  rcases hq with e | e
  · left; rw [e]; exact HH.out.own
  · exact .inr (HN7.out q e)
theorem RSplice_any {w : World} {b : Nat} {O : Nat → Prop} {L : List ByteArray} (h : RT w b O L) (i k : Int) (hk : k ≤ 9223372036854775807) (v : Value) (new : List ByteArray) {F : Nat → Prop} (hv : Rds F w v new) (hnl : L.length + new.length ≤ 50000) (hs : ∀ s ∈ new, s.size ≤ 140737488351232) :
    Calls Try.prog 40 #[.pointer (some ⟨b, 0, none⟩), .int .i64 i, .int .i64 k, v] w fun e w' => e = .returned (.bool (decide (0 ≤ i ∧ 0 ≤ k ∧ i + k ≤ (L.length : Int)))) ∧ RTP w b O (if 0 ≤ i ∧ 0 ≤ k ∧ i + k ≤ (L.length : Int) then spliceL L i.toNat k.toNat new else L) w' := by
  by_cases hik : 0 ≤ i ∧ 0 ≤ k ∧ i + k ≤ (L.length : Int)
  · rw [if_pos hik, decide_eq_true hik]
    obtain ⟨i', rfl⟩ : ∃ n : Nat, i = (n : Int) := ⟨i.toNat, by omega⟩
    obtain ⟨k', rfl⟩ : ∃ n : Nat, k = (n : Int) := ⟨k.toNat, by omega⟩
    exact RSplice_in h i' k' (by omega) v new hv hnl hs
  · rw [if_neg hik, decide_eq_false hik]
    exact RSplice_out h i k hk v hik
end Go.Proofs.Ytmklapbecdhnmaa
namespace Go.Proofs.Ytmklapbecdhnmaa
open Go.RowKit
theorem splice_one {α : Type} (L : List α) (i : Nat) (x : α) : spliceL L i 0 [x] = insL L i x := by simp [spliceL, insL]
theorem splice_less {α : Type} (L : List α) (i : Nat) : spliceL L i 1 [] = delL L i := by simp [spliceL, delL]
theorem splice_other (L : List ByteArray) (i : Nat) (x : ByteArray) (h : i < L.length) : spliceL L i 1 [x] = L.set i x := by rw [set_eq L i x h]; simp [spliceL]
theorem one_rds {w : World} {b : Nat} {x : ByteArray} (k : w.heap[b]? = some (.cells #[.string x] 9 (0, 0))) : Rds (fun q => b = q) w (.slice (some ⟨b, 0, none⟩) 1 1) [x] :=
  (Rds.of_row (ls := [x]) (row_lit k)).mono (fun q _ e => by injection e)
theorem RInsert_any {w : World} {b : Nat} {O : Nat → Prop} {L : List ByteArray} (h : RT w b O L) (i : Int) (x : ByteArray) (hx : x.size ≤ 140737488351232) (hl : L.length + 1 ≤ 50000) :
    Calls Try.prog 43 #[.pointer (some ⟨b, 0, none⟩), .int .i64 i, .string x] w fun e w' => e = .returned (.bool (decide (0 ≤ i ∧ i ≤ (L.length : Int)))) ∧ RTP w b O (if 0 ≤ i ∧ i ≤ (L.length : Int) then insL L i.toNat x else L) w' := by
  have HH := Lib.hid h
  have HX : Hid (∀ s ∈ [x], s.size ≤ 140737488351232) := Lib.hid (fun s hs => by rw [List.mem_singleton.1 hs]; exact hx)
  have HL : Hid (L.length + [x].length ≤ 50000) := Lib.hid hl
  have HE1 : Hid (decide (0 ≤ i ∧ i ≤ (L.length : Int)) = decide (0 ≤ i ∧ 0 ≤ (0 : Int) ∧ i + 0 ≤ (L.length : Int))) := Lib.hid (decide_eq_decide.2 (by omega))
  have HE2 : Hid ((if 0 ≤ i ∧ i ≤ (L.length : Int) then insL L i.toNat x else L) = (if 0 ≤ i ∧ 0 ≤ (0 : Int) ∧ i + 0 ≤ (L.length : Int) then spliceL L i.toNat (0 : Int).toNat [x] else L)) := Lib.hid (by
    rw [show (0 : Int).toNat = 0 from rfl, splice_one]
    by_cases e : 0 ≤ i ∧ i ≤ (L.length : Int)
    · rw [if_pos e, if_pos (by omega)]
    · rw [if_neg e, if_neg (by omega)])
  have HS : Hid (∀ (w2 : World) (v : Value) (F : Nat → Prop), RT w2 b O L → Rds F w2 v [x] → Calls Try.prog 40 #[.pointer (some ⟨b, 0, none⟩), .int .i64 i, .int .i64 0, v] w2 fun e w' => e = .returned (.bool (decide (0 ≤ i ∧ i ≤ (L.length : Int)))) ∧ RTP w2 b O (if 0 ≤ i ∧ i ≤ (L.length : Int) then insL L i.toNat x else L) w') := Lib.hid (fun w2 v F q1 q2 => by
    rw [HE1.out, HE2.out]
    exact RSplice_any q1 i 0 (by decide) v [x] q2 HL.out HX.out)
  clear HE1 HE2
  obtain ⟨ok, hok⟩ : ∃ ok, decide (0 ≤ i ∧ i ≤ (L.length : Int)) = ok := ⟨_, rfl⟩
  obtain ⟨M, hM⟩ : ∃ M, (if 0 ≤ i ∧ i ≤ (L.length : Int) then insL L i.toNat x else L) = M := ⟨_, rfl⟩
  rw [hok, hM] at HS ⊢
  clear hok hM
  clear h hl
  go_enter Try.func43, Try.ntmps43
  go_wp2_with (first
    | ((with_reducible refine stopBS 22 _ _ rfl ?_); unfold Stop; refine wpList_sliceLit_blk rfl 22 9 1 _ rfl Try.underlying22 #[.string x] (by go_simp; first | done | rfl | kernel_rfl) ?_; intro bS w2 hbS kS hu2 hs2)
    | (go_at_call 40; refine (HS.out _ _ _ (HH.out.newer hu2) (one_rds kS)).mono ?_; rintro e w5 ⟨rfl, hp5⟩))
  go_ret
  exact ⟨rfl, RTP.then (hu2.mono (fun _ _ e => e.elim)) (fun _ e => .inl e) hp5⟩
theorem RSet_any {w : World} {b : Nat} {O : Nat → Prop} {L : List ByteArray} (h : RT w b O L) (i : Int) (x : ByteArray) (hx : x.size ≤ 140737488351232) (hl : L.length + 1 ≤ 50000) :
    Calls Try.prog 39 #[.pointer (some ⟨b, 0, none⟩), .int .i64 i, .string x] w fun e w' => e = .returned (.bool (decide (0 ≤ i ∧ i < (L.length : Int)))) ∧ RTP w b O (if 0 ≤ i ∧ i < (L.length : Int) then L.set i.toNat x else L) w' := by
  have HH := Lib.hid h
  have HX : Hid (∀ s ∈ [x], s.size ≤ 140737488351232) := Lib.hid (fun s hs => by rw [List.mem_singleton.1 hs]; exact hx)
  have HL : Hid (L.length + [x].length ≤ 50000) := Lib.hid hl
  have HE1 : Hid (decide (0 ≤ i ∧ i < (L.length : Int)) = decide (0 ≤ i ∧ 0 ≤ (1 : Int) ∧ i + 1 ≤ (L.length : Int))) := Lib.hid (decide_eq_decide.2 (by omega))
  have HE2 : Hid ((if 0 ≤ i ∧ i < (L.length : Int) then L.set i.toNat x else L) = (if 0 ≤ i ∧ 0 ≤ (1 : Int) ∧ i + 1 ≤ (L.length : Int) then spliceL L i.toNat (1 : Int).toNat [x] else L)) := Lib.hid (by
    rw [show (1 : Int).toNat = 1 from rfl]
    by_cases e : 0 ≤ i ∧ i < (L.length : Int)
    · rw [if_pos e, if_pos (by omega), splice_other _ _ _ (by omega)]
    · rw [if_neg e, if_neg (by omega)])
  have HS : Hid (∀ (w2 : World) (v : Value) (F : Nat → Prop), RT w2 b O L → Rds F w2 v [x] → Calls Try.prog 40 #[.pointer (some ⟨b, 0, none⟩), .int .i64 i, .int .i64 1, v] w2 fun e w' => e = .returned (.bool (decide (0 ≤ i ∧ i < (L.length : Int)))) ∧ RTP w2 b O (if 0 ≤ i ∧ i < (L.length : Int) then L.set i.toNat x else L) w') := Lib.hid (fun w2 v F q1 q2 => by
    rw [HE1.out, HE2.out]
    exact RSplice_any q1 i 1 (by decide) v [x] q2 HL.out HX.out)
  clear HE1 HE2
  obtain ⟨ok, hok⟩ : ∃ ok, decide (0 ≤ i ∧ i < (L.length : Int)) = ok := ⟨_, rfl⟩
  obtain ⟨M, hM⟩ : ∃ M, (if 0 ≤ i ∧ i < (L.length : Int) then L.set i.toNat x else L) = M := ⟨_, rfl⟩
  rw [hok, hM] at HS ⊢
  clear hok hM
  clear h hl
  go_enter Try.func39, Try.ntmps39
  go_wp2_with (first
    | ((with_reducible refine stopBS 22 _ _ rfl ?_); unfold Stop; refine wpList_sliceLit_blk rfl 22 9 1 _ rfl Try.underlying22 #[.string x] (by go_simp; first | done | rfl | kernel_rfl) ?_; intro bS w2 hbS kS hu2 hs2)
    | (go_at_call 40; refine (HS.out _ _ _ (HH.out.newer hu2) (one_rds kS)).mono ?_; rintro e w5 ⟨rfl, hp5⟩))
  go_ret
  exact ⟨rfl, RTP.then (hu2.mono (fun _ _ e => e.elim)) (fun _ e => .inl e) hp5⟩
theorem RDelete_any {w : World} {b : Nat} {O : Nat → Prop} {L : List ByteArray} (h : RT w b O L) (i : Int) :
    Calls Try.prog 38 #[.pointer (some ⟨b, 0, none⟩), .int .i64 i] w fun e w' => e = .returned (.bool (decide (0 ≤ i ∧ i < (L.length : Int)))) ∧ RTP w b O (if 0 ≤ i ∧ i < (L.length : Int) then delL L i.toNat else L) w' := by
  have HH := Lib.hid h
  have HL : Hid (L.length + ([] : List ByteArray).length ≤ 50000) := Lib.hid (by obtain ⟨_, _, _, _, q, _⟩ := h; exact q)
  have HE1 : Hid (decide (0 ≤ i ∧ i < (L.length : Int)) = decide (0 ≤ i ∧ 0 ≤ (1 : Int) ∧ i + 1 ≤ (L.length : Int))) := Lib.hid (decide_eq_decide.2 (by omega))
  have HE2 : Hid ((if 0 ≤ i ∧ i < (L.length : Int) then delL L i.toNat else L) = (if 0 ≤ i ∧ 0 ≤ (1 : Int) ∧ i + 1 ≤ (L.length : Int) then spliceL L i.toNat (1 : Int).toNat [] else L)) := Lib.hid (by
    rw [show (1 : Int).toNat = 1 from rfl, splice_less]
    by_cases e : 0 ≤ i ∧ i < (L.length : Int)
    · rw [if_pos e, if_pos (by omega)]
    · rw [if_neg e, if_neg (by omega)])
  have HS : Hid (∀ (w2 : World) (v : Value) (F : Nat → Prop), RT w2 b O L → Rds F w2 v [] → Calls Try.prog 40 #[.pointer (some ⟨b, 0, none⟩), .int .i64 i, .int .i64 1, v] w2 fun e w' => e = .returned (.bool (decide (0 ≤ i ∧ i < (L.length : Int)))) ∧ RTP w2 b O (if 0 ≤ i ∧ i < (L.length : Int) then delL L i.toNat else L) w') := Lib.hid (fun w2 v F q1 q2 => by
    rw [HE1.out, HE2.out]
    exact RSplice_any q1 i 1 (by decide) v [] q2 HL.out (fun s hs => by cases hs))
  clear HE1 HE2
  obtain ⟨ok, hok⟩ : ∃ ok, decide (0 ≤ i ∧ i < (L.length : Int)) = ok := ⟨_, rfl⟩
  obtain ⟨M, hM⟩ : ∃ M, (if 0 ≤ i ∧ i < (L.length : Int) then delL L i.toNat else L) = M := ⟨_, rfl⟩
  rw [hok, hM] at HS ⊢
  clear hok hM
  clear h
  go_enter Try.func38, Try.ntmps38
  go_wp2_with (first
    | (go_at_call 40; refine (HS.out w _ _ HH.out (Rds.nil (fun _ => False) w)).mono ?_; rintro e w5 ⟨rfl, hp5⟩))
  go_ret
  exact ⟨rfl, hp5⟩
theorem RGet_out {w : World} {b : Nat} {O : Nat → Prop} {L : List ByteArray} (h : RT w b O L) (i : Int) (hi : i < 0 ∨ (L.length : Int) ≤ i) :
    Calls Try.prog 41 #[.pointer (some ⟨b, 0, none⟩), .int .i64 i] w fun e w' => e = .returned (.tuple #[.string ⟨#[]⟩, .bool false]) ∧ w = w' := by
  obtain ⟨a, c, h1, h2⟩ := h.form
  obtain ⟨N, hN⟩ : ∃ N, L.length = N := ⟨_, rfl⟩
  rw [hN] at h1 hi
  have c0 := cell_of h1 0 rfl
  clear h2
  rcases Int.lt_or_le i 0 with q | q
  · go_enter Try.func41, Try.ntmps41
    go_wp2
    go_ret2
    exact ⟨rfl, rfl⟩
  · have g1 : ¬ i < 0 := by omega
    have g2 : (N : Int) ≤ i := by omega
    go_enter Try.func41, Try.ntmps41
    go_wp2
    go_ret2
    exact ⟨rfl, rfl⟩
theorem RGet_in {w : World} {b : Nat} {O : Nat → Prop} {L : List ByteArray} (h : RT w b O L) (i : Nat) (hi : i < L.length) :
    Calls Try.prog 41 #[.pointer (some ⟨b, 0, none⟩), .int .i64 (i : Int)] w fun e w' => e = .returned (.tuple #[.string L[i], .bool true]) ∧ w = w' := by
  obtain ⟨a, c, h1, h2⟩ := h.form
  obtain ⟨g, o, rfl, e1⟩ := h2.at i hi
  obtain ⟨x, hx⟩ : ∃ x, L[i] = x := ⟨_, rfl⟩
  obtain ⟨N, hN⟩ : ∃ N, L.length = N := ⟨_, rfl⟩
  rw [hx] at e1 ⊢
  rw [hN] at h1 hi
  have c0 := cell_of h1 0 rfl
  have g1 : ¬ (i : Int) < 0 := by omega
  have g2 : ¬ (N : Int) ≤ (i : Int) := by omega
  clear h2
  go_enter Try.func41, Try.ntmps41
  go_wp2
  go_ret2
  exact ⟨rfl, rfl⟩
theorem RGet_any {w : World} {b : Nat} {O : Nat → Prop} {L : List ByteArray} (h : RT w b O L) (i : Int) :
    Calls Try.prog 41 #[.pointer (some ⟨b, 0, none⟩), .int .i64 i] w fun e w' => e = .returned (.tuple #[.string (if 0 ≤ i ∧ i < (L.length : Int) then L.getD i.toNat ⟨#[]⟩ else ⟨#[]⟩), .bool (decide (0 ≤ i ∧ i < (L.length : Int)))]) ∧ w = w' := by
  by_cases hi : 0 ≤ i ∧ i < (L.length : Int)
  · rw [if_pos hi, decide_eq_true hi]
    obtain ⟨n, rfl⟩ : ∃ n : Nat, i = (n : Int) := ⟨i.toNat, by omega⟩
    rw [Int.toNat_natCast, List.getD_eq_getElem?_getD, List.getElem?_eq_getElem (by omega), Option.getD_some]
    exact RGet_in h n (by omega)
  · rw [if_neg hi, decide_eq_false hi]
    exact RGet_out h i (by omega)
end Go.Proofs.Ytmklapbecdhnmaa
namespace Go.Proofs.Ytmklapbecdhnmaa
open Go.RowKit
def RNewPost (w : World) (ls : List ByteArray) (e : Ending) (w' : World) : Prop := ∃ b O, e = .returned (.pointer (some ⟨b, 0, none⟩)) ∧ RT w' b O ls ∧ Upd (fun _ => False) w w' ∧ ∀ k, O k → w.heap.size ≤ k
theorem RNew_any {w : World} {F : Nat → Prop} (v : Value) (ls : List ByteArray) (hv : Rds F w v ls) (hs : ∀ s ∈ ls, s.size ≤ 140737488351232) (hn : ls.length ≤ 50000) :
    Calls Try.prog 24 #[v] w (RNewPost w ls) := by
  obtain ⟨i0, hi0, hz0, hz3, hz4⟩ := info_parts info_str1
  have HV := Lib.hid hv
  have HSZ := Lib.hid hs
  clear hv hs
  go_enter Try.func24, Try.ntmps24
  go_upto_region 2 with (first
    | ((with_reducible refine stopBx 54 _ rfl ?_); unfold Stop; refine wpList_box_blk rfl 54 _ rfl _ (by go_simp; first | done | exact rfl) #[.slice none 0 0] rfl ?_; intro bT w3 hbT kT hu3 hs3))
  have c0 := cell_of kT 0 rfl
  go_wp2_with (first
    | (at_builtin; refine wpList_append_rds rfl _ _ 22 rfl i0 _ Try.underlying22 hi0 hz0 hz3 hz4 rfl (.slice none 0 0) rfl [] (.nil _ _) _ rfl ls (HV.out.upd hu3 (fun _ _ e => e)) (by simp only [List.length_nil]; omega) ?_; intro v4 w4 hr4 hu4 hn4; rw [List.nil_append] at hr4; obtain ⟨a4, c4, e4⟩ := hr4.form; obtain ⟨n4, hn4'⟩ : ∃ n, (strsC ls).length = n := ⟨_, rfl⟩; rw [hn4'] at e4; subst e4; have k4 := hu4.heap kT (fun e => by cases e); clear hn4')
    | ((with_reducible refine stopSt 22 _ _ rfl ?_); unfold Stop; refine wpList_store_blk rfl 22 _ _ rfl bT 0 rfl (.slice a4 n4 c4) rfl #[.slice none 0 0] #[.slice a4 n4 c4] _ k4 (zzB rfl) (by kernel_rfl) rfl rfl ?_; intro w8 k8 hu8 hs8))
  go_ret
  have hg : ∀ g, Value.ownBlock (.slice a4 n4 c4) = some g → w3.heap.size ≤ g := fun g hg => by
    rcases hn4 g hg with e | e
    · cases e
    · exact e
  have hu4' : Upd (fun _ => False) w3 w4 := hu4.mono (fun _ _ e => by cases e)
  have hb3 : bT < w3.heap.size := heap_lt kT
  refine ⟨bT, fun q => q = bT ∨ Value.ownBlock (.slice a4 n4 c4) = some q, rfl, ⟨_, k8, ?_, .inl rfl, hn, HSZ.out, fun q hq => ?_⟩, ((hu3.then hu4' (fun _ _ e => e)).then hu8 (fun q hq e => by omega)), fun q hq => ?_⟩
  · exact ((Rds.of_row hr4).upd hu8 (fun q e e2 => by have := hg q e; omega)).mono (fun q _ e => ⟨.inr e, by have := hg q e; omega⟩)
  · rcases hq with e | e
    · have := hu4'.size; have := hu8.size; omega
    · have := hr4.lt e; have := hu8.size; omega
  · rcases hq with e | e
    · omega
    · have := hg q e; have := hu3.size; omega
theorem same_bytes2 {a b : ByteArray} (h : a.toList = b.toList) : a = b := by
  rw [ByteArray.toList_eq, ByteArray.toList_eq] at h
  exact ByteArray.ext (Array.ext' h)
theorem Same_len {w : World} {F G : Nat → Prop} {u v : Value} {L M : List ByteArray} (h1 : Rds F w u L) (h2 : Rds G w v M) (hn : L.length ≠ M.length) :
    Calls Try.prog 13 #[u, v] w fun e w' => e = .returned (.bool false) ∧ w = w' := by
  obtain ⟨a, c, rfl, _⟩ := h1
  obtain ⟨b, d, rfl, _⟩ := h2
  obtain ⟨n, hn1⟩ : ∃ n, L.length = n := ⟨_, rfl⟩
  obtain ⟨m, hn2⟩ : ∃ m, M.length = m := ⟨_, rfl⟩
  rw [hn1, hn2] at hn ⊢
  clear hn1 hn2
  have g1 : ¬ (n : Int) = (m : Int) := by omega
  go_enter Try.func13, Try.ntmps13
  go_wp2
  go_ret
  exact ⟨rfl, rfl⟩
theorem Same_any {w : World} {F G : Nat → Prop} {u v : Value} {L M : List ByteArray} (h1 : Rds F w u L) (h2 : Rds G w v M) (hn : L.length = M.length) (ok : Bool) (hok : decide (L = M) = ok) :
    Calls Try.prog 13 #[u, v] w fun e w' => e = .returned (.bool ok) ∧ From w w' := by
  obtain ⟨a, c, rfl, _⟩ := id h1
  obtain ⟨b, d, rfl, _⟩ := id h2
  have H1 := Lib.hid h1
  have H2 := Lib.hid h2
  obtain ⟨n, hn1⟩ : ∃ n, L.length = n := ⟨_, rfl⟩
  rw [← hn, hn1] at H2 ⊢
  rw [hn1] at H1
  have hnm : n ≤ maxLen := by have := H1.out.len; omega
  have HN1 := Lib.hid hn1
  have HN2 : Hid (M.length = n) := Lib.hid (by rw [← hn]; exact hn1)
  have HO := Lib.hid hok
  unfold maxLen at hnm
  clear h1 h2 hn hn1 hok
  go_enter Try.func13, Try.ntmps13
  go_wp2
  go_loopg [5] n (fun gk iv wr => ∃ j : Nat, iv = .int .i64 (j : Int) ∧ j + gk = n ∧ Hid (From w wr) ∧ Hid (L.take j = M.take j))
  case atStart => exact ⟨0, rfl, by omega, Lib.hid (From.refl _), Lib.hid rfl⟩
  case round =>
    obtain ⟨j, rfl, hgk, HF, HE⟩ := hrel
    by_cases hlt : j < n
    · have hj1 : j < L.length := by rw [HN1.out]; exact hlt
      have hj2 : j < M.length := by rw [HN2.out]; exact hlt
      obtain ⟨g1, o1, rfl, e1⟩ := (H1.out.upd (false_upd2 HF.out) (fun _ _ e => e)).at j hj1
      obtain ⟨g2, o2, rfl, e2⟩ := (H2.out.upd (false_upd2 HF.out) (fun _ _ e => e)).at j hj2
      by_cases hxy : L[j] = M[j]
      · have HE2 : Hid (L.take (j + 1) = M.take (j + 1)) := Lib.hid (by rw [← List.take_append_getElem hj1, ← List.take_append_getElem hj2, HE.out, hxy])
        rw [← hxy] at e2
        obtain ⟨x, hx⟩ : ∃ x, L[j] = x := ⟨_, rfl⟩
        rw [hx] at e1 e2
        clear hxy hx
        go_wp2
        first | (refine wq_region_from_still ?_) | (refine wq_region_from (by kernel_rfl) (by kernel_rfl) ?_)
        repeat
          first
            | ((refine WQ_skip (by rfl) ?_); (try simp only [Act.put, zzT, zzO, zzS]))
            | (apply WQ_val (by rfl); (focus (intro w' hC; (have q1 := From.cell hC e1; have q2 := From.cell hC e2); go_simp; (first | done | exact rfl | (rw [if_pos (by omega)]; done) | (exact str_idx (by omega))))); (try simp only [Act.put, zzT, zzO, zzS]))
            | (apply WQ_call (by rfl); (focus (intro w' hC; go_simp; (first | done | exact rfl | exact ⟨rfl, rfl⟩))); (focus (intro w' hC; first | fail)); (try simp only [Act.put, zzT, zzO, zzS]))
        refine WQ_nil ?_
        intro wq hq
        go_wp2
        go_roundg (gk - 1)
        case measure => omega
        case rel => exact ⟨j + 1, by go_num, by omega, Lib.hid (From.call HF.out hq), HE2⟩
      · have HOK : Hid (ok = false) := Lib.hid (by
          rw [← HO.out]
          exact decide_eq_false (fun e => hxy (by subst e; rfl)))
        have hne : (L[j].toList == M[j].toList) = false := beq_eq_false_iff_ne.2 (fun e => hxy (same_bytes2 e))
        obtain ⟨x, hx⟩ : ∃ x, L[j] = x := ⟨_, rfl⟩
        obtain ⟨y, hy⟩ : ∃ y, M[j] = y := ⟨_, rfl⟩
        rw [hx] at e1 hne
        rw [hy] at e2 hne
        clear hxy hx hy
        go_wp2
        first | (refine wq_region_from_still ?_) | (refine wq_region_from (by kernel_rfl) (by kernel_rfl) ?_)
        repeat
          first
            | ((refine WQ_skip (by rfl) ?_); (try simp only [Act.put, zzT, zzO, zzS]))
            | (apply WQ_val (by rfl); (focus (intro w' hC; (have q1 := From.cell hC e1; have q2 := From.cell hC e2); go_simp; (first | done | exact rfl | (rw [if_pos (by omega)]; done) | (exact str_idx (by omega))))); (try simp only [Act.put, zzT, zzO, zzS]))
            | (apply WQ_call (by rfl); (focus (intro w' hC; go_simp; (first | done | exact rfl | exact ⟨rfl, rfl⟩))); (focus (intro w' hC; first | fail)); (try simp only [Act.put, zzT, zzO, zzS]))
        refine WQ_nil ?_
        intro wq hq
        go_wp2
        go_ret
        exact ⟨by rw [HOK.out]; rfl, From.call HF.out hq⟩
    · obtain rfl : j = n := by omega
      have HOK : Hid (ok = true) := Lib.hid (by
        rw [← HO.out]
        have := HE.out
        rw [List.take_of_length_le (by rw [HN1.out]; exact Nat.le_refl _), List.take_of_length_le (by rw [HN2.out]; exact Nat.le_refl _)] at this
        exact decide_eq_true this)
      go_wp2
      go_ret
      exact ⟨by rw [HOK.out]; rfl, HF.out⟩
theorem sizes_take (L : List ByteArray) (j : Nat) (h : j < L.length) : sizes (L.take (j + 1)) = sizes (L.take j) + (L[j].size : Int) := by
  rw [← List.take_append_getElem h, sizes_app]
  simp [sizes]
theorem RBytes_any {w : World} {b : Nat} {O : Nat → Prop} {L : List ByteArray} (h : RT w b O L) :
    Calls Try.prog 28 #[.pointer (some ⟨b, 0, none⟩)] w fun e w' => e = .returned (.int .i64 (sizes L)) ∧ From w w' := by
  obtain ⟨_, _, _, _, hlen, hsh, _⟩ := id h
  obtain ⟨a, c, h1, h2⟩ := h.form
  have HR := Lib.hid h2
  have HB := Lib.hid h1
  have HSH := Lib.hid hsh
  obtain ⟨n, hn⟩ : ∃ n, L.length = n := ⟨_, rfl⟩
  rw [hn] at hlen HR HB
  have HN := Lib.hid hn
  have HSZ : Hid (∀ j, 0 ≤ sizes (L.take j) ∧ sizes (L.take j) ≤ 50000 * 140737488351232) := Lib.hid (fun j => ⟨sizes_nonneg _, by
    have q := sizes_le (L.take j) (fun s hs => hsh s (List.mem_of_mem_take hs))
    rw [List.length_take] at q
    omega⟩)
  clear hn h h1 h2 hsh
  go_enter Try.func28, Try.ntmps28
  go_wp2
  go_loopg [3, 4] n (fun gk sv iv wr => ∃ j : Nat, iv = .int .i64 (j : Int) ∧ j + gk = n ∧ Hid (From w wr) ∧ sv = .int .i64 (sizes (L.take j)))
  case atStart => exact ⟨0, rfl, by omega, Lib.hid (From.refl _), rfl⟩
  case round =>
    obtain ⟨j, rfl, hgk, HF, rfl⟩ := hrel
    have c0 := cell_of ((false_upd2 HF.out).heap HB.out (fun e => e)) 0 rfl
    have hs1 := HSZ.out j
    by_cases hlt : j < n
    · have hj1 : j < L.length := by rw [HN.out]; exact hlt
      obtain ⟨g1, o1, rfl, e1⟩ := (HR.out.upd (false_upd2 HF.out) (fun _ _ e => e)).at j hj1
      have HT := Lib.hid (sizes_take L j hj1)
      have hx2 := HSH.out L[j] (List.getElem_mem hj1)
      obtain ⟨x, hx⟩ : ∃ x, L[j] = x := ⟨_, rfl⟩
      rw [hx] at e1 HT hx2
      obtain ⟨s, hs⟩ : ∃ s, sizes (L.take j) = s := ⟨_, rfl⟩
      rw [hs] at hs1 HT ⊢
      have gs : IntKind.i64.wrap (s + (x.size : Int)) = s + x.size := IntWalk.i64_in _ (by omega)
      clear hx hs
      go_wp2
      go_roundg (gk - 1)
      case measure => omega
      case rel => exact ⟨j + 1, by go_num, by omega, HF, by rw [HT.out]⟩
    · obtain rfl : j = n := by omega
      have HE : Hid (sizes (L.take j) = sizes L) := Lib.hid (by rw [List.take_of_length_le (by rw [HN.out]; exact Nat.le_refl _)])
      rw [HE.out]
      go_wp2
      go_ret
      exact ⟨rfl, HF.out⟩
end Go.Proofs.Ytmklapbecdhnmaa
namespace Go.Proofs.Ytmklapbecdhnmaa
open Go.RowKit
def nine : List ByteArray := [⟨#[97]⟩, ⟨#[98]⟩, ⟨#[99]⟩, ⟨#[100]⟩, ⟨#[101]⟩, ⟨#[102]⟩, ⟨#[103]⟩, ⟨#[104]⟩, ⟨#[105]⟩]
theorem Rds.lit {w : World} {g n : Nat} {ls : List ByteArray} (k : w.heap[g]? = some (.cells (strsC ls).toArray 9 (0, 0))) (hn : ls.length = n) (hm : n ≤ maxLen) : Rds (fun q => g = q) w (.slice (some ⟨g, 0, none⟩) n n) ls := by
  have hl : (strsC ls).length = n := by rw [strsC, List.length_map]; exact hn
  exact (Rds.of_row (Row.of_cells k (by rw [← hl]; exact List.take_length) hl (Nat.le_refl _) (by simp [hl]) hm)).mono (fun q _ e => by injection e)
theorem nine_len : nine.length = 9 := rfl
theorem nine_short : ∀ s ∈ nine, s.size ≤ 140737488351232 := by decide
set_option maxRecDepth 100000 in
set_option maxHeartbeats 16000000 in
theorem known_any (w : World) :
    Calls Try.prog 10 #[] w fun e w' => e = .returned (.bool true) ∧ Upd (fun _ => False) w w' := by
  go_enter Try.func10, Try.ntmps10
  go_upto_region 4 with (first
    | ((with_reducible refine stopBS 22 _ _ rfl ?_); unfold Stop; refine wpList_sliceLit_blk rfl 22 9 9 _ rfl Try.underlying22 (strsC nine).toArray (by go_simp; first | done | rfl | kernel_rfl) ?_; intro bS w2 hbS kS hu2 hs2)
    | (go_at_call 11; refine (New_tr _ nine (Rds.lit kS nine_len (by unfold maxLen; omega)) nine_short (by decide)).mono ?_; rintro e w3 ⟨b, O, rfl, ht, hu3, ho⟩))
  have HT := Lib.hid ht
  have HU3 : Hid (Upd (fun _ => False) w w3) := Lib.hid (hu2.then hu3 (fun _ _ e => e))
  obtain ⟨L, hL, hcall⟩ := Shape_tr ht (by decide)
  rw [nine_len] at hL
  obtain ⟨p, q, rfl, hpq⟩ := hL.nine
  have HC := Lib.hid hcall
  clear ht hu2 hu3 kS hs2 hbS hcall hL
  go_upto_region 5 with (first
    | (go_at_call 17; refine HC.out.mono ?_; rintro e w4 ⟨v4, rfl, hn4, hu4⟩))
  have HT4 : Hid (Tr w4 b O (1 + 24 * nine.length) nine) := Lib.hid (HT.out.newer hu4)
  have HU4 := Lib.hid (HU3.out.then hu4 (fun _ _ e => e))
  have HN4 := Lib.hid hn4
  have hget := Get_tr HT4.out (by decide) 8
  rw [if_pos (by rw [nine_len]; omega), decide_eq_true (by rw [nine_len]; omega), show nine.getD (8 : Int).toNat ⟨#[]⟩ = ⟨#[105]⟩ from rfl] at hget
  have HG := Lib.hid hget
  clear hn4 hu4 hget
  go_upto_region 6 with (first
    | (go_at_call 19; refine HG.out.mono ?_; rintro e w5 ⟨rfl, hq5⟩))
  have HT5 : Hid (Tr w5 b O (1 + 24 * nine.length) nine) := Lib.hid (HT4.out.newer (false_upd2 hq5))
  have HU5 : Hid (Upd (fun _ => False) w w5) := Lib.hid (HU4.out.then (false_upd2 hq5) (fun _ _ e => e))
  obtain ⟨vs, a1, a2, a3, _, _⟩ := HN4.out.newer (false_upd2 hq5)
  match vs, a2 with
  | [x, y], _ =>
    have b1 := a3 0 x [2] rfl rfl
    have b2 := a3 1 y [p, q] rfl rfl
    obtain ⟨ga, c, rfl⟩ := a1.form
    obtain ⟨gx, cx, rfl⟩ := b1.form
    obtain ⟨gy, cy, rfl⟩ := b2.form
    obtain ⟨g, rfl⟩ := a1.addr (by simp)
    obtain ⟨gx, rfl⟩ := b1.addr (by decide)
    obtain ⟨gy, rfl⟩ := b2.addr (by simp [natsC])
    have e0 := a1.cells0 0 _ rfl
    have e1 := a1.cells0 1 _ rfl
    have ex := b1.cells0 0 _ rfl
    have ey := b2.cells0 0 _ rfl
    have ez := b2.cells0 1 _ rfl
    have hs : IntKind.i64.wrap ((p : Int) + (q : Int)) = 9 := by rw [IntWalk.i64_in _ (by omega)]; omega
    unfold natV at ex ey ez
    change w5.cell? ⟨g, 0, none⟩ = some (.slice (some ⟨gx, 0, none⟩) 1 cx) at e0
    change w5.cell? ⟨g, 1, none⟩ = some (.slice (some ⟨gy, 0, none⟩) 2 cy) at e1
    change w5.cell? ⟨gx, 0, none⟩ = some (.int .i64 2) at ex
    change w5.cell? ⟨gy, 0, none⟩ = some (.int .i64 (p : Int)) at ey
    change w5.cell? ⟨gy, 1, none⟩ = some (.int .i64 (q : Int)) at ez
    clear a1 b1 b2 a3
    first | (refine wq_region_from_still ?_) | (refine wq_region_from (by kernel_rfl) (by kernel_rfl) ?_)
    repeat
      first
        | ((refine WQ_skip (by rfl) ?_); (try simp only [Act.put, zzT, zzO, zzS]))
        | (apply WQ_val (by rfl); (focus (intro w' hC; (have r0 := From.cell hC e0; have r1 := From.cell hC e1; have r2 := From.cell hC ex; have r3 := From.cell hC ey; have r4 := From.cell hC ez); go_simp; (first | done | exact rfl | (rw [if_pos (by omega)]; done) | (exact str_idx (by omega))))); (try simp only [Act.put, zzT, zzO, zzS]))
        | (apply WQ_call (by rfl); (focus (intro w' hC; go_simp; (first | done | exact rfl | exact ⟨rfl, rfl⟩))); (focus (intro w' hC; first | (have hh := Len_tr (HT5.out.upd (false_upd2 hC) (fun _ _ e => e)); rw [nine_len] at hh; exact From.of_calls hC hh))); (try simp only [Act.put, zzT, zzO, zzS]))
    refine WQ_nil ?_
    intro wq hq
    go_wp2
    go_ret
    exact ⟨rfl, HU5.out.then (false_upd2 hq) (fun _ _ e => e)⟩
end Go.Proofs.Ytmklapbecdhnmaa
