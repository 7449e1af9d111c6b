/- Lemmas that the law's proof stands on, part 27: Tvw. No condition. -/
import Derived.Test.YtmklapbecdhnmaaBaseA0
import Derived.Test.YtmklapbecdhnmaaBaseA26
set_option linter.all false
set_option linter.unusedVariables false
set_option linter.unusedSimpArgs false
namespace Go.Proofs.Ytmklapbecdhnmaa
open Go.RowKit
theorem Told.none {L : List (List Nat)} (h : Told 0 L) : L = [[0]] := by
  obtain ⟨h1, x, r, rfl, h2, h3, h4, h5, h6⟩ := h
  cases r with
  | nil => rw [h4 rfl]
  | cons a r =>
    have := h5 (by simp)
    have h7 : 1 ≤ 4 ^ (a :: r).length := Nat.one_le_pow _ _ (by decide)
    omega
theorem delM_len {L : List ByteArray} {i : Int} (h : 0 ≤ i ∧ i < (L.length : Int)) : (delM L i).length + 1 = L.length := by
  unfold delM
  rw [if_pos h]
  unfold delL
  rw [List.length_append, List.length_take, List.length_drop]
  omega
theorem Upd.cross {w a b : World} (h1 : Upd (fun _ => False) w a) (h2 : Upd (fun _ => False) w b) (hs : a.heap.size ≤ b.heap.size) : Upd (fun q => w.heap.size ≤ q) a b :=
  ⟨h2.os.trans h1.os.symm, h2.tape.trans h1.tape.symm, h2.output.trans h1.output.symm, hs, fun k _ hk => by
    have hk2 : k < w.heap.size := Nat.lt_of_not_le hk
    rw [h2.block k hk2 (fun e => e), h1.block k hk2 (fun e => e)]⟩
set_option maxRecDepth 100000 in
set_option maxHeartbeats 16000000 in
theorem empties_law {w : World} (la : Option Addr) (lc : Nat) (ls : List ByteArray) (hl : LinesIn w la lc ls) (pa : Option Addr) (pc : Nat) (ps : List Int) (hp : PicksIn w pa ps) :
    Calls Try.prog 5 #[.slice la ls.length lc, .slice pa ps.length pc] w fun e w' => e = .returned (.bool true) ∧ Below w.heap.size w w' := by
  obtain ⟨hr, hs⟩ := hl
  obtain ⟨hp0, hp1, hp2⟩ := hp
  have HR := Lib.hid hr
  have HSZ := Lib.hid hs
  have HP1 := Lib.hid hp1
  have HP2 := Lib.hid hp2
  have hlm := hr.len.2
  unfold maxLen at hlm
  obtain ⟨N, hN⟩ : ∃ N, ls.length = N := ⟨_, rfl⟩
  obtain ⟨P, hP⟩ : ∃ P, ps.length = P := ⟨_, rfl⟩
  rw [hN] at HR hlm
  rw [hP] at hp0
  have HN := Lib.hid hN
  have HPL := Lib.hid hP
  rw [hN, hP]
  clear hr hs hN hp1 hp2 hP
  by_cases q1 : 200 < N
  · have q1i : (200 : Int) < (N : Int) := by omega
    go_enter Try.func5, Try.ntmps5
    go_wp2_with (first
      | (go_at_call 10; refine (known_any _).mono ?_; rintro e w2 ⟨rfl, hu2⟩))
    go_ret
    exact ⟨rfl, upd_base hu2⟩
  have q1i : ¬ (200 : Int) < (N : Int) := by omega
  by_cases q2 : P = 0
  · subst q2
    go_enter Try.func5, Try.ntmps5
    go_wp2_with (first
      | (go_at_call 10; refine (known_any _).mono ?_; rintro e w2 ⟨rfl, hu2⟩))
    go_ret
    exact ⟨rfl, upd_base hu2⟩
  have q2i : ((P : Int) == 0) = false := by simp; omega
  by_cases q3 : 200 < P
  · have q3i : (200 : Int) < (P : Int) := by omega
    go_enter Try.func5, Try.ntmps5
    go_wp2_with (first
      | (go_at_call 10; refine (known_any _).mono ?_; rintro e w2 ⟨rfl, hu2⟩))
    go_ret
    exact ⟨rfl, upd_base hu2⟩
  have q3i : ¬ (200 : Int) < (P : Int) := by omega
  go_enter Try.func5, Try.ntmps5
  go_upto_region 3 with (first
    | (go_at_call 10; refine (known_any _).mono ?_; rintro e w2 ⟨rfl, hu2⟩))
  have HU2 := Lib.hid hu2
  clear hu2
  go_wp2_with (first
    | (go_at_call 11; refine (New_o _ ls HU2.out (HR.out.upd HU2.out (fun _ _ e => e)) HSZ.out (by rw [HN.out]; omega)).mono ?_; rintro e w3 ⟨bt, rfl, h3, hu3⟩))
  have H3 := Lib.hid (h3.mono (m := 7201) (by rw [HN.out]; omega))
  clear h3 hu3 HU2
  go_loopg [6] N (fun gk iv wr => ∃ j : Nat, ∃ L : List ByteArray, iv = .int .i64 (j : Int) ∧ j + gk = N ∧ Hid (L.length + j = N) ∧ Hid (One w wr bt 7201 L (fun _ => False)))
  case atStart => exact ⟨0, ls, rfl, by omega, Lib.hid HN.out, H3⟩
  case round =>
    obtain ⟨j, L, rfl, hgk, HLN, HO⟩ := hrel
    by_cases hlt : j < N
    · obtain ⟨r, hr⟩ : ∃ r, j % P = r := ⟨_, rfl⟩
      have hrP : r < P := by rw [← hr]; exact Nat.mod_lt _ (by omega)
      have hrl : r < ps.length := by rw [HPL.out]; exact hrP
      have hm1 : (j : Int).tmod (P : Int) = (r : Int) := by rw [← hr]; rfl
      obtain ⟨g, o, rfl, e0⟩ := HP2.out r hrl
      obtain ⟨p0, p1⟩ := HP1.out ps[r] (List.getElem_mem hrl)
      obtain ⟨p, hp⟩ : ∃ p, ps[r] = p := ⟨_, rfl⟩
      rw [hp] at e0 p0 p1
      have e1 := HO.out.base.cell e0 (fun e => e)
      have hgb : g < w.heap.size := World.block_lt_of_cell? w ⟨g, o + r, none⟩ e0
      have HGB : Hid (¬ w.heap.size ≤ g) := Lib.hid (by omega)
      obtain ⟨R, hR⟩ : ∃ R, L.length = R := ⟨_, rfl⟩
      have HRL := Lib.hid hR
      have hRj : R + j = N := by rw [← hR]; exact HLN.out
      have hw0 : IntKind.i64.wrap p = p := IntWalk.i64_in _ (by omega)
      obtain ⟨q, hq⟩ : ∃ q, p % (R : Int) = q := ⟨_, rfl⟩
      have hq0 : 0 ≤ q ∧ q < (R : Int) := by rw [← hq]; exact ⟨Int.emod_nonneg _ (by omega), Int.emod_lt_of_pos _ (by omega)⟩
      have hm2 : p.tmod (R : Int) = q := by rw [← hq]; exact Int.tmod_eq_emod_of_nonneg p0
      have hw1 : IntKind.i64.wrap ((N : Int) - 1) = (N : Int) - 1 := IntWalk.i64_in _ (by omega)
      have hw2 : IntKind.i64.wrap ((N : Int) - 1 - (j : Int)) = ((R - 1 : Nat) : Int) := by rw [IntWalk.i64_in _ (by omega)]; omega
      have gz1 : ¬ (P : Int) = 0 := by omega
      have gz2 : ¬ R = 0 := by omega
      have hd := Delete_o HO.out (by omega) q
      have hdl := delM_len (L := L) (i := q) (by rw [hR]; exact hq0)
      rw [decide_eq_true (by rw [hR]; exact hq0), if_pos (by rw [hR]; exact hq0)] at hd
      obtain ⟨L2, hL2⟩ : ∃ L2, delM L q = L2 := ⟨_, rfl⟩
      rw [hL2] at hdl hd
      rw [hR] at hdl
      have HL2 : Hid (L2.length = R - 1) := Lib.hid (by omega)
      have HDL : Hid (∀ w', Upd (fun _ => False) wr w' → Calls Try.prog 21 #[.pointer (some ⟨bt, 0, none⟩), .int .i64 q] w' fun e w'' => e = .returned (.bool true) ∧ One w w'' bt 7201 L2 (fun _ => False) ∧ Upd (fun q => w.heap.size ≤ q) w' w'') := Lib.hid (fun w' h => by
        have h1 := Delete_o (HO.out.newer h) (by omega) q
        rw [decide_eq_true (by rw [hR]; exact hq0), if_pos (by rw [hR]; exact hq0), hL2] at h1
        exact h1.mono (fun e w'' ⟨a1, a2, a3⟩ => ⟨a1, a2, Upd.cross (HO.out.newer h).base a2.base a3.size⟩))
      obtain ⟨R1, hR1⟩ : ∃ R1, R - 1 = R1 := ⟨_, rfl⟩
      rw [hR1] at hw2 HL2
      have hR1N : R1 + 1 + j = N := by omega
      clear hr hp e0 hgb hR hq hd hdl hL2 hR1
      have HLN2 : Hid (∀ w', Upd (fun _ => False) wr w' → Calls Try.prog 22 #[.pointer (some ⟨bt, 0, none⟩)] w' fun e w'' => e = .returned (.int .i64 (R : Int)) ∧ From w' w'') := Lib.hid (fun w' h => by
        obtain ⟨O, ht⟩ := (HO.out.newer h).tr
        rw [← HRL.out]
        exact Len_tr ht)
      go_wp2
      refine wp_region_seq (fun v => Upd (fun q => w.heap.size ≤ q) wr v) (fun i => i != 99) [(0, true), (1, true), (2, true), (3, true), (4, true), (5, true), (6, true), (7, true), (8, true), (9, true), (10, false), (11, true), (12, false), (13, true), (14, true), (15, true), (17, true), (18, true), (19, true), (20, true), (21, true), (16, false), (22, false), (23, true), (24, true)] (by exact rfl) (by kernel_rfl) (by intro c a d v w h; cases d <;> exact h) ?_
      have hD : Upd (fun _ => False) wr wr.drew := (Upd.refl _ _).drew; have hS : Upd (fun q => w.heap.size ≤ q) wr wr.drew := (Upd.refl _ _).drew
      iterate 10 (((apply seq_val2 rfl (by rfl); (focus (intro w' hS'; have s0 := hS'.cell e1 HGB.out; go_simp; (first | done | exact rfl | (rw [if_pos (by omega)]; done)))); (focus exact hS))); (try simp only [Act.put, zzT, zzO, zzS]))
      apply seq_call2 (fun v w' => v = .int .i64 (R : Int) ∧ Upd (fun _ => False) wr w') rfl (by rfl)
      focus (go_simp; (first | done | exact rfl | exact ⟨rfl, rfl⟩))
      focus (refine (HLN2.out _ hD).mono ?_; rintro e w' ⟨rfl, hq⟩; exact ⟨_, rfl, rfl, hD.then (false_upd2 hq) (fun _ _ e => e)⟩)
      rintro x w2 ⟨rfl, hD2⟩; clear hD; have hD := hD2; clear hD2; have hS2 : Upd (fun q => w.heap.size ≤ q) wr w2 := hD.mono (fun _ _ e => e.elim); clear hS; have hS := hS2; clear hS2; refine ⟨fun _ => hS, ?_⟩
      (try simp only [Act.put, zzT, zzO, zzS])
      (apply seq_val2 rfl (by rfl); (focus (intro w' hS'; have s0 := hS'.cell e1 HGB.out; go_simp; (first | done | exact rfl | (rw [if_pos (by omega)]; done)))); (focus exact hS))
      (try simp only [Act.put, zzT, zzO, zzS])
      apply seq_call2 (fun v w' => v = .bool true ∧ One w w' bt 7201 L2 (fun _ => False) ∧ Upd (fun q => w.heap.size ≤ q) wr w') rfl (by rfl)
      focus (go_simp; (first | done | exact rfl | exact ⟨rfl, rfl⟩))
      focus (refine (HDL.out _ hD).mono ?_; rintro e w' ⟨rfl, h1, h2⟩; exact ⟨_, rfl, rfl, h1, hS.then h2 (fun _ _ e => e)⟩)
      rintro x w3 ⟨rfl, h3, hS2⟩; have H3 := Lib.hid h3; clear h3 hD; clear hS; have hS := hS2; clear hS2; refine ⟨fun _ => hS, ?_⟩
      (try simp only [Act.put, zzT, zzO, zzS])
      iterate 8 ((first | (refine seq_skip2 rfl (by rfl) hS ?_) | (apply seq_val2 rfl (by rfl); (focus (intro w' hS'; have s0 := hS'.cell e1 HGB.out; go_simp; (first | done | exact rfl | (rw [if_pos (by omega)]; done)))); (focus exact hS))); (try simp only [Act.put, zzT, zzO, zzS]))
      apply seq_call2 (fun v w' => (∃ S B, Told R1 S ∧ Nest w' B v S) ∧ One w w' bt 7201 L2 (fun _ => False) ∧ Upd (fun q => w.heap.size ≤ q) wr w') rfl (by rfl)
      focus (go_simp; (first | done | exact rfl | exact ⟨rfl, rfl⟩))
      focus (obtain ⟨O4, ht4⟩ := H3.out.tr; obtain ⟨S, hT, hc⟩ := Shape_tr ht4 (by omega); rw [HL2.out] at hT; refine hc.mono ?_; rintro e w' ⟨x, rfl, h1, h2⟩; exact ⟨_, rfl, ⟨S, _, hT, h1⟩, H3.out.newer h2, hS.then h2 (fun _ _ e => e.elim)⟩)
      rintro x w4 ⟨⟨S, B, hT, hn⟩, h4, hS2⟩; have HT := Lib.hid hT; have HNS := Lib.hid hn; have H4 := Lib.hid h4; clear hT hn h4; clear hS; have hS := hS2; clear hS2; refine ⟨fun _ => hS, ?_⟩
      (try simp only [Act.put, zzT, zzO, zzS])
      apply seq_call2 (fun v w' => v = .bool true ∧ One w w' bt 7201 L2 (fun _ => False) ∧ Upd (fun q => w.heap.size ≤ q) wr w') rfl (by rfl)
      focus (go_simp; (first | done | exact rfl | exact ⟨rfl, rfl⟩))
      focus (refine (shaped_any _ S R1 HNS.out HT.out.fits (by omega)).mono ?_; rintro e w' ⟨rfl, hq⟩; exact ⟨_, rfl, rfl, H4.out.newer (false_upd2 hq), hS.then (false_upd2 hq) (fun _ _ e => e.elim)⟩)
      rintro x w5 ⟨rfl, h5, hS2⟩; have H5 := Lib.hid h5; clear h5; clear hS; have hS := hS2; clear hS2; refine ⟨fun _ => hS, ?_⟩
      (try simp only [Act.put, zzT, zzO, zzS])
      iterate 2 ((first | (refine seq_skip2 rfl (by rfl) hS ?_) | (apply seq_val2 rfl (by rfl); (focus (intro w' hS'; have s0 := hS'.cell e1 HGB.out; go_simp; (first | done | exact rfl | (rw [if_pos (by omega)]; done)))); (focus exact hS))); (try simp only [Act.put, zzT, zzO, zzS]))
      refine seq_nil ?_
      clear hS e1 hm1 hm2 hw0 hw1 hw2 gz1 gz2
      go_wp2
      go_roundg (gk - 1)
      case measure => omega
      case rel => exact ⟨j + 1, L2, by go_num, by omega, Lib.hid (by rw [HL2.out]; omega), H5.out |> Lib.hid⟩
    · obtain rfl : j = N := by omega
      have hL : L = [] := List.eq_nil_of_length_eq_zero (by have := HLN.out; omega)
      subst hL
      obtain ⟨O4, ht4⟩ := HO.out.tr
      obtain ⟨S, hT, hc⟩ := Shape_tr ht4 (by omega)
      rw [List.length_nil] at hT
      rw [hT.none] at hc
      have HC := Lib.hid hc
      clear ht4 hT hc
      go_upto_region 12 with (first
        | (go_at_call 17; refine HC.out.mono ?_; rintro e w6 ⟨v6, rfl, hn6, hu6⟩))
      have H6 := Lib.hid (HO.out.newer hu6)
      obtain ⟨vs, hrow, _⟩ := id hn6
      obtain ⟨va, vc, rfl⟩ := hrow.form
      obtain ⟨hv1, _, hcell⟩ := hn6.at
      rw [show vs.length = 1 from hv1]
      obtain ⟨g, ga, gc, rfl, e1, _, hcell2⟩ := hcell 0 (by simp)
      obtain ⟨b, rfl, e2⟩ := hcell2 0 (by simp)
      have HE : Hid (∀ w', Upd (fun _ => False) w6 w' → w'.cell? ⟨g, 0, none⟩ = some (.slice (some ⟨b, 0, none⟩) 1 gc) ∧ w'.cell? ⟨b, 0, none⟩ = some (.int .i64 0)) := Lib.hid (fun w' h => ⟨h.cell e1 (fun e => e), h.cell e2 (fun e => e)⟩)
      have HDD : Hid (∀ w', One w w' bt 7201 [] (fun _ => False) → Calls Try.prog 21 #[.pointer (some ⟨bt, 0, none⟩), .int .i64 0] w' fun e w'' => e = .returned (.bool false) ∧ Upd (fun _ => False) w w'') := Lib.hid (fun w' h => by
        have h1 := Delete_o h (by omega) 0
        rw [decide_eq_false (by simp)] at h1
        exact h1.mono (fun e w'' ⟨a1, a2, _⟩ => ⟨a1, a2.base⟩))
      have HLL : Hid (∀ w', One w w' bt 7201 [] (fun _ => False) → Calls Try.prog 22 #[.pointer (some ⟨bt, 0, none⟩)] w' fun e w'' => e = .returned (.int .i64 0) ∧ From w' w'') := Lib.hid (fun w' h => by
        obtain ⟨O, ht⟩ := h.tr
        exact Len_tr ht)
      have HBB : Hid (∀ w', One w w' bt 7201 [] (fun _ => False) → Calls Try.prog 15 #[.pointer (some ⟨bt, 0, none⟩)] w' fun e w'' => e = .returned (.int .i64 0) ∧ w' = w'') := Lib.hid (fun w' h => by
        obtain ⟨O, ht⟩ := h.tr
        exact Bytes_tr ht)
      have HLI : Hid (∀ w', One w w' bt 7201 [] (fun _ => False) → Calls Try.prog 14 #[.pointer (some ⟨bt, 0, none⟩)] w' fun e w'' => ∃ a c, e = .returned (.slice a 0 c) ∧ Upd (fun _ => False) w' w'') := Lib.hid (fun w' h => by
        obtain ⟨O, ht⟩ := h.tr
        refine (Lines_tr ht (by omega)).mono ?_
        rintro e w'' ⟨x, rfl, a1, a2, a3⟩
        obtain ⟨a, c, rfl⟩ := a1.form
        exact ⟨a, c, rfl, a2⟩)
      clear hn6 hu6 hrow hv1 hcell hcell2 e1 e2 HC
      go_wp2_with (first
        | (go_at_call 22; refine (HLL.out _ H6.out).mono ?_; rintro e w7 ⟨rfl, hq7⟩; have H7 := Lib.hid (H6.out.newer (false_upd2 hq7)); have HU7 := Lib.hid (false_upd2 hq7); clear hq7)
        | (go_at_call 15; refine (HBB.out _ H7.out).mono ?_; rintro e w8 ⟨rfl, rfl⟩)
        | (go_at_call 14; refine (HLI.out _ H7.out).mono ?_; rintro e w9 ⟨xa, xc, rfl, hu9⟩; have H9 := Lib.hid (H7.out.newer hu9); obtain ⟨f1, f2⟩ := HE.out _ (HU7.out.then hu9 (fun _ _ e => e)); clear hu9)
        | (go_at_call 21; refine (HDD.out _ H9.out).mono ?_; rintro e w10 ⟨rfl, hu10⟩))
      go_ret
      exact ⟨rfl, upd_base hu10⟩
end Go.Proofs.Ytmklapbecdhnmaa
