/- Lemmas that the law's proof stands on, part 19: Tve, Tvf, Tvg. No condition. -/
import Derived.Test.YtmklapbecdhnmaaBaseA0
import Derived.Laws.MakeOwn
import Derived.Test.YtmklapbecdhnmaaBaseA18
set_option linter.all false
set_option linter.unusedVariables false
set_option linter.unusedSimpArgs false
namespace Go.Proofs.Ytmklapbecdhnmaa
open Go.RowKit
theorem info_ints1 : (Try.prog.info? 42).map (fun i => (i.zero, i.size, i.bytes)) = some (some (.slice none 0 0), 1, 24) := by kernel_rfl
/-- Rows of numbers in a row. -/
def Nest (w : World) (B : Nat) (v : Value) (L : List (List Nat)) : Prop := ∃ vs, Row w 42 v vs ∧ vs.length = L.length ∧ (∀ (i : Nat) (u : Value) (l : List Nat), vs[i]? = some u → L[i]? = some l → Row w 3 u (natsC l)) ∧ (∀ g, v.ownBlock = some g → B ≤ g) ∧ ∀ u ∈ vs, ∀ g, u.ownBlock = some g → v.ownBlock ≠ some g
theorem Nest.nil (w : World) (B : Nat) : Nest w B (.slice none 0 0) [] := ⟨[], .nil _ _, rfl, (fun i u l h => by simp at h), (fun g h => by cases h), (fun u h => by simp at h)⟩
theorem Nest.newer {w w' : World} {B : Nat} {v : Value} {L : List (List Nat)} (h : Nest w B v L) (hu : Upd (fun _ => False) w w') : Nest w' B v L := by
  obtain ⟨vs, h1, h2, h3, h4, h5⟩ := h
  exact ⟨vs, h1.upd hu (fun _ _ e => e), h2, fun i u l a b => (h3 i u l a b).upd hu (fun _ _ e => e), h4, h5⟩
theorem Nest.push {w w' : World} {B : Nat} {v v' u : Value} {vs : List Value} {L : List (List Nat)} {l : List Nat} (h1 : Row w 42 v vs) (h2 : vs.length = L.length) (h3 : ∀ (i : Nat) (u : Value) (l : List Nat), vs[i]? = some u → L[i]? = some l → Row w 3 u (natsC l)) (h4 : ∀ g, v.ownBlock = some g → B ≤ g) (h5 : ∀ u ∈ vs, ∀ g, u.ownBlock = some g → v.ownBlock ≠ some g)
    (hu : Row w 3 u (natsC l)) (hn : ∀ g, u.ownBlock = some g → v.ownBlock ≠ some g) (hB : B ≤ w.heap.size) (a1 : Row w' 42 v' (vs ++ [u])) (a2 : Upd (fun b => v.ownBlock = some b) w w') (a3 : Near w v v') : Nest w' B v' (L ++ [l]) := by
  refine ⟨_, a1, by simp [h2], fun i x y hx hy => ?_, fun g hg => ?_, fun x hx g hg e => ?_⟩
  · rcases Nat.lt_or_ge i vs.length with hi | hi
    · rw [List.getElem?_append_left hi] at hx
      rw [List.getElem?_append_left (by omega)] at hy
      exact (h3 i x y hx hy).upd a2 (fun b hb e => h5 x (List.mem_of_getElem? hx) b hb e)
    · rw [List.getElem?_append_right hi] at hx
      rw [List.getElem?_append_right (by omega)] at hy
      have hi0 : i - vs.length = 0 := by
        rcases Nat.eq_zero_or_pos (i - vs.length) with e | e
        · exact e
        · rw [List.getElem?_eq_none (by simp; omega)] at hx; cases hx
      rw [hi0] at hx
      rw [← h2, hi0] at hy
      injection hx with hx
      injection hy with hy
      subst hx hy
      exact hu.upd a2 (fun b hb e => hn b hb e)
  · rcases a3 g hg with e | e
    · exact h4 g e
    · omega
  · rcases a3 g e with q | q
    · rcases List.mem_append.1 hx with m | m
      · exact h5 x m g hg q
      · rw [List.mem_singleton.1 m] at hg
        exact hn g hg q
    · rcases List.mem_append.1 hx with m | m
      · obtain ⟨i, hi, rfl⟩ := List.mem_iff_getElem.1 m
        have := (h3 i _ (L[i]'(by omega)) (List.getElem?_eq_getElem hi) (List.getElem?_eq_getElem (by omega))).lt hg
        omega
      · rw [List.mem_singleton.1 m] at hg
        have := hu.lt hg
        omega
def SPost (w : World) (L : List (List Nat)) (e : Ending) (w' : World) : Prop := ∃ v', e = .returned v' ∧ Nest w' w.heap.size v' L ∧ Upd (fun _ => False) w w'
/-- What is still to be told. -/
def Rest (T : TD) (total : List (List Nat)) (gk : Nat) (ks : List Nat) (L : List (List Nat)) : Prop :=
  (gk = 0 ∧ ks = [] ∧ L = total) ∨ ∃ h subs, gk = h + 1 ∧ ks = kidsOf subs ∧ subs ≠ [] ∧ subs.length ≤ 1000000 ∧ Ranks T h subs ∧ (linesOf subs).length ≤ 1000000 ∧ L ++ T.levels h ks = total
theorem Rest.next {T : TD} {total : List (List Nat)} {gk : Nat} {ks : List Nat} {L : List (List Nat)} (h : Rest T total gk ks L) (hk : ks ≠ []) : 0 < gk ∧ Rest T total (gk - 1) (ks.flatMap fun k => (T.get k).kids) (L ++ [ks.map fun k => (T.get k).size]) := by
  rcases h with ⟨_, rfl, _⟩ | ⟨h, subs, rfl, rfl, h1, h2, h3, h4, h5⟩
  · exact absurd rfl hk
  refine ⟨by omega, ?_⟩
  cases h with
  | zero =>
    left
    exact ⟨rfl, (ranks_zero subs h3).2, h5⟩
  | succ h =>
    right
    obtain ⟨nx, a1, a2, a3, a4, a5⟩ := ranks_succ subs h3
    have := a3.few
    rw [← a2] at this
    refine ⟨h, nx, rfl, a1, a5 h1, by omega, a3.ranks, by rw [← a2]; exact h4, ?_⟩
    rw [← h5, List.append_assoc]
    rfl
theorem Rest.each {T : TD} {total : List (List Nat)} {gk : Nat} {ks : List Nat} {L : List (List Nat)} (h : Rest T total gk ks L) : ks.length ≤ 1000000 ∧ ∀ k ∈ ks, k < T.nodes.length ∧ (T.get k).size ≤ 8 := by
  rcases h with ⟨_, rfl, _⟩ | ⟨h, subs, rfl, rfl, h1, h2, h3, h4, h5⟩
  · exact ⟨by simp, fun k h => by simp at h⟩
  · refine ⟨by rw [kidsOf_len]; exact h2, fun k hk => ?_⟩
    obtain ⟨s, hs, rfl⟩ := List.mem_map.1 hk
    exact ⟨(h3 s hs).1.head.2.1, (h3 s hs).2⟩
theorem Rest.short {T : TD} {total : List (List Nat)} {gk : Nat} {ks : List Nat} {L : List (List Nat)} (h : Rest T total gk ks L) : L.length ≤ total.length := by
  rcases h with ⟨_, _, rfl⟩ | ⟨h, subs, _, _, _, _, _, _, rfl⟩
  · exact Nat.le_refl _
  · rw [List.length_append]; omega
theorem flat_len (T : TD) : ∀ (ks : List Nat), (∀ k ∈ ks, (T.get k).size ≤ 8) → (ks.flatMap fun k => (T.get k).kids).length ≤ 8 * ks.length
  | [], _ => by simp
  | k :: ks, h => by
    have := flat_len T ks (fun j hj => h j (List.mem_cons_of_mem _ hj))
    have h2 := h k List.mem_cons_self
    unfold ND.size at h2
    rw [List.flatMap_cons, List.length_append, List.length_cons]
    omega
set_option maxRecDepth 100000 in
set_option maxHeartbeats 16000000 in
theorem Shape_any {w : World} {V : TV} {T : TD} (h : TA w V T) (total : List (List Nat)) (g0 : Nat) (hrest : Rest T total g0 [T.root] []) (htl : total.length ≤ 100) :
    Calls Try.prog 17 #[.pointer (some ⟨V.bT, 0, none⟩)] w (SPost w total) := by
  have HH := Lib.hid h
  have HE := Lib.hid hrest
  obtain ⟨i0, hi, hz0, hz3, hz4⟩ := info_parts info_int1
  obtain ⟨i1, hi1, hy0, hy3, hy4⟩ := info_parts info_ints1
  have c2 := cell_of (h.head_cells rfl) 2 (v := .int .i64 (T.root : Int)) rfl
  have hcap := h.cap
  have hmax := h.max
  unfold maxLen at hmax
  clear h hrest
  go_enter Try.func17, Try.ntmps17
  go_wp2_with (first
    | ((with_reducible refine stopBS 42 _ _ rfl ?_); unfold Stop; refine wpList_sliceLit_blk rfl 42 3 1 _ rfl Try.underlying42 #[.int .i64 (T.root : Int)] (by go_simp; first | done | rfl | kernel_rfl) ?_; intro bS w2 hbS kS hu2 hs2))
  have HR2 : Hid (Row w2 3 (.slice (some ⟨bS, 0, none⟩) 1 1) (natsC [T.root])) := Lib.hid (row_lit kS)
  have HU2 := Lib.hid hu2
  clear c2 kS hu2 hs2 hbS
  go_loopg [3, 4] g0 (fun gk ov lv wr => ∃ ks : List Nat, ∃ L : List (List Nat), Hid (Rest T total gk ks L) ∧ Hid (Nest wr w.heap.size ov L) ∧ Hid (Row wr 3 lv (natsC ks)) ∧ Hid (Upd (fun _ => False) w wr))
  case atStart => exact ⟨_, _, HE, Lib.hid (Nest.nil _ _), HR2, HU2⟩
  case round =>
    obtain ⟨ks, L, HE, HN, HR, HU⟩ := hrel
    obtain ⟨la, lc, el⟩ := HR.out.form
    rw [show (natsC ks).length = ks.length by simp [natsC]] at el
    subst el
    have HR : Hid (Row wr 3 (.slice la ks.length lc) (natsC ks)) := HR
    obtain ⟨hk1, hk2⟩ := HE.out.each
    obtain ⟨nk, hnk⟩ : ∃ nk, ks.length = nk := ⟨_, rfl⟩
    rw [hnk] at hk1 HR
    rw [hnk]
    have HNK := Lib.hid hnk
    have HK2 := Lib.hid hk2
    clear hk2
    by_cases h0 : nk = 0
    · have hgk : gk = 0 ∧ L = total := by
        rcases HE.out with ⟨a, _, c⟩ | ⟨h, subs, _, e, f, _⟩
        · exact ⟨a, c⟩
        · rw [e, kidsOf_len] at hnk
          exact absurd (List.length_eq_zero_iff.1 (by omega)) f
      have HL := Lib.hid hgk.2
      clear hnk hgk
      subst h0
      go_wp2
      go_ret
      exact ⟨_, rfl, HL.out ▸ HN.out, HU.out⟩
    · have hg1 := HE.out.next (by intro e; rw [e] at hnk; simp at hnk; omega)
      have HE2 := Lib.hid hg1.2
      have hg0 := hg1.1
      have hsh := Nat.le_trans HE.out.short htl
      obtain ⟨gz, hgz⟩ : ∃ gz, gk = gz + 1 := ⟨gk - 1, by omega⟩
      subst hgz
      clear hg1 hnk HE
      have hpos : 0 < nk := by omega
      go_wp2
      have HR1 := HR
      have HN1 := HN
      have HU1 := HU
      clear HR HN HU
      generalize wr = w1 at *
      have HH1 : Hid (TA w1 V T) := Lib.hid (HH.out.upd HU1.out (fun _ _ _ e => e))
      go_loopg [19, 5, 6] nk (fun gj iv sv xv wr => ∃ j : Nat, iv = .int .i64 (j : Int) ∧ j + gj = nk ∧ Hid (Row wr 3 sv (natsC ((ks.take j).map fun k => (T.get k).size))) ∧ Hid (Row wr 3 xv (natsC ((ks.take j).flatMap fun k => (T.get k).kids))) ∧ Hid (Upd (fun _ => False) w1 wr) ∧ Hid ((∀ g, sv.ownBlock = some g → w1.heap.size ≤ g) ∧ (∀ g, xv.ownBlock = some g → w1.heap.size ≤ g) ∧ ∀ g, sv.ownBlock = some g → xv.ownBlock ≠ some g))
      case atStart => exact ⟨0, rfl, by omega, Lib.hid (.nil _ _), Lib.hid (.nil _ _), Lib.hid (Upd.refl _ _), Lib.hid ⟨fun g e => (by cases e), fun g e => (by cases e), fun g e => (by cases e)⟩⟩
      case round =>
        obtain ⟨j, rfl, hgj, HS, HX, HUj, HB⟩ := hrel
        by_cases hlt : j < nk
        · have hjl : j < ks.length := by rw [HNK.out]; exact hlt
          obtain ⟨k, hk⟩ : ∃ k, ks[j] = k := ⟨_, rfl⟩
          obtain ⟨hkl, hks⟩ := HK2.out k (by rw [← hk]; exact List.getElem_mem hjl)
          have HS1 : Hid (natsC ((ks.take j).map fun k => (T.get k).size) ++ [natV (T.get k).size] = natsC ((ks.take (j + 1)).map fun k => (T.get k).size)) := Lib.hid (by
            rw [List.take_add_one, List.getElem?_eq_getElem hjl, hk, List.map_append]
            show _ = List.map _ _
            rw [List.map_append]
            rfl)
          have HX1 : Hid (natsC ((ks.take j).flatMap fun k => (T.get k).kids) ++ natsC (T.get k).kids = natsC ((ks.take (j + 1)).flatMap fun k => (T.get k).kids)) := Lib.hid (by
            rw [List.take_add_one, List.getElem?_eq_getElem hjl, hk, List.flatMap_append]
            show _ = List.map _ _
            rw [List.map_append]
            simp [natsC])
          have HL1 : Hid ((natsC ((ks.take j).map fun k => (T.get k).size)).length = j) := Lib.hid (by rw [natsC, List.length_map, List.length_map, List.length_take]; omega)
          have HL2 : Hid ((natsC ((ks.take j).flatMap fun k => (T.get k).kids)).length ≤ 8 * j) := Lib.hid (by
            rw [natsC, List.length_map]
            refine Nat.le_trans (flat_len T _ (fun k hk => (HK2.out k (List.mem_of_mem_take hk)).2)) ?_
            rw [List.length_take]
            omega)
          obtain ⟨g, hg⟩ := HR1.out.addr (by rw [natsC, List.length_map, HNK.out]; omega)
          subst hg
          have e1 : wr.cell? ⟨g, j, none⟩ = some (.int .i64 (k : Int)) := by
            have := (HR1.out.upd HUj.out (fun _ _ e => e)).cells0 j (natV k) (by rw [natsC, List.getElem?_map, List.getElem?_eq_getElem hjl, hk]; rfl)
            rwa [Nat.zero_add] at this
          have HT : Hid (TA wr V T) := Lib.hid (HH1.out.upd HUj.out (fun _ _ _ e => e))
          obtain ⟨nl, hnl⟩ : ∃ n, (T.get k).lines.length = n := ⟨_, rfl⟩
          obtain ⟨nn, hnn⟩ : ∃ n, (T.get k).kids.length = n := ⟨_, rfl⟩
          have hsz : (T.get k).size = nl + nn := by unfold ND.size; rw [hnl, hnn]
          obtain ⟨ma, mc, em⟩ := (HT.out.lin k hkl).form
          obtain ⟨ka, kc, ek⟩ := (HT.out.kid k hkl).form
          rw [show (strsC (T.get k).lines).length = nl by rw [← hnl]; simp [strsC]] at em
          rw [show (natsC (T.get k).kids).length = nn by rw [← hnn]; simp [natsC]] at ek
          have HEK := Lib.hid ek
          have n0 : wr.cell? ⟨V.gN, k * 3, none⟩ = some (.slice ma nl mc) := cell_of HT.out.row _ (by rw [← em]; exact (HT.out.cel k hkl).1)
          have n1 : wr.cell? ⟨V.gN, k * 3 + 1, none⟩ = some (.slice ka nn kc) := cell_of HT.out.row _ (by rw [← ek]; exact (HT.out.cel k hkl).2.1)
          have c0 := cell_of (HT.out.head_cells rfl) 0 (v := .slice (some ⟨V.gN, 0, none⟩) T.nodes.length V.cN) rfl
          have HSZ : Hid (natV (T.get k).size = .int .i64 ((nl : Int) + (nn : Int))) := Lib.hid (by rw [hsz]; unfold natV; congr 1)
          have HNN := Lib.hid hnn
          rw [hsz] at hks
          clear hk hsz em ek hnl hnn
          go_upto_region 9 with (first
            | (go_at_call 33; refine (size_any V.gN (k * 3) ma nl mc n0 ka nn kc n1 (by omega) (by omega)).mono ?_; rintro e w5 ⟨rfl, hq5⟩)
            | ((with_reducible refine stopBS 42 _ _ rfl ?_); unfold Stop; refine wpList_sliceLit_blk rfl 42 3 1 _ rfl Try.underlying42 #[.int .i64 ((nl : Int) + (nn : Int))] (by go_simp; first | done | rfl | kernel_rfl) ?_; intro bS w2 hbS kS hu2 hs2)
            | (at_builtin; refine wpList_append_rows _ rfl _ _ 42 rfl 3 i0 _ 8 Try.underlying42 hi hz0 hz3 hz4 rfl _ rfl _ ((HS.out.upd (false_upd2 hq5) (fun _ _ e => e)).upd hu2 (fun _ _ h => h)) (.slice (some ⟨bS, 0, none⟩) 1 1) rfl [.int .i64 ((nl : Int) + (nn : Int))] (row_lit kS) (fun u hu => by simp only [List.mem_cons, List.not_mem_nil, or_false] at hu; rw [hu]; rfl) (by rw [HL1.out]; unfold maxLen; show j + 1 ≤ _; omega) (by rw [HL1.out]; show (j + 1) * 8 ≤ _; omega) ?_; intro v3 w3 hr3 hu3 hn3))
          have hU3 : Upd (fun b => Value.ownBlock u5 = some b) wr w3 := (((false_upd2 hq5).mono (fun _ _ e => e.elim)).then hu2 (fun _ _ e => e.elim)).then hu3 (fun _ _ e => e)
          have hn3' : Near wr u5 v3 := Near.then (Near.refl wr u5) hn3 (by have := (false_upd2 hq5).size; have := hu2.size; omega)
          have H3 : Hid (TA w3 V T) := Lib.hid (HT.out.upd hU3 (fun s b hs e => by have := HB.out.1 b e; have := HH1.out.lt hs; omega))
          have HS3 : Hid (Row w3 3 v3 (natsC ((ks.take (j + 1)).map fun k => (T.get k).size))) := Lib.hid (by
            have := hr3
            rw [← HSZ.out, HS1.out] at this
            exact this)
          have HX3 : Hid (Row w3 3 u6 (natsC ((ks.take j).flatMap fun k => (T.get k).kids))) := Lib.hid (HX.out.upd hU3 (fun b hb e => HB.out.2.2 b e hb))
          have HU3 : Hid (Upd (fun b => Value.ownBlock u5 = some b) wr w3) := Lib.hid hU3
          have HN3 := Lib.hid hn3'
          have HRK : Hid (Row w3 3 (.slice ka nn kc) (natsC (T.get k).kids)) := Lib.hid (HEK.out ▸ H3.out.kid k hkl)
          have HLK : Hid ((natsC (T.get k).kids).length = nn) := Lib.hid (by rw [natsC, List.length_map]; exact HNN.out)
          clear n0 n1 c0 hU3 hn3' hr3 hu3 hn3 hu2 hs2 hbS kS hq5
          have n1 : w3.cell? ⟨V.gN, k * 3 + 1, none⟩ = some (.slice ka nn kc) := cell_of H3.out.row _ (by rw [← HEK.out]; exact (H3.out.cel k hkl).2.1)
          have c0 := cell_of (H3.out.head_cells rfl) 0 (v := .slice (some ⟨V.gN, 0, none⟩) T.nodes.length V.cN) rfl
          go_wp2_with (first
            | (at_builtin; refine wpList_append_rows _ rfl _ _ 42 rfl 3 i0 _ 8 Try.underlying42 hi hz0 hz3 hz4 rfl _ rfl _ HX3.out (.slice ka nn kc) rfl (natsC (T.get k).kids) HRK.out (natsC_ones _) (by have := HL2.out; rw [HLK.out]; unfold maxLen; omega) (by have := HL2.out; rw [HLK.out]; omega) ?_; intro v6 w6 hr6 hu6 hn6))
          go_roundg (gk - 1)
          case measure => omega
          case rel => exact ⟨j + 1, by go_num, by omega, Lib.hid (HS3.out.upd hu6 (fun b hb e => by
            rcases HN3.out b hb with q | q
            · exact HB.out.2.2 b q e
            · have := HX.out.lt e; omega)), Lib.hid (by rw [← HX1.out]; exact hr6), Lib.hid ((HUj.out.then HU3.out (fun b hb e => by have := HB.out.1 b e; omega)).then hu6 (fun b hb e => by have := HB.out.2.1 b e; omega)), Lib.hid (by
              have hz1 := HUj.out.size
              have hz2 := HU3.out.size
              refine ⟨fun b hb => ?_, fun b hb => ?_, fun b hb e => ?_⟩
              · rcases HN3.out b hb with q | q
                · exact HB.out.1 b q
                · omega
              · rcases hn6 b hb with q | q
                · exact HB.out.2.1 b q
                · omega
              · rcases HN3.out b hb with q | q <;> rcases hn6 b e with p | p
                · exact HB.out.2.2 b q p
                · have := HS.out.lt q; omega
                · have := HX.out.lt p; omega
                · have := HS3.out.lt hb; omega)⟩
        · obtain rfl : j = nk := by omega
          rw [List.take_of_length_le (by rw [HNK.out]; exact Nat.le_refl _)] at HS HX
          obtain ⟨vs, a1, a2, a3, a4, a5⟩ := HN1.out.newer HUj.out
          have HA1 := Lib.hid a1
          have HA2 := Lib.hid a2
          have HA3 := Lib.hid a3
          have HA4 := Lib.hid a4
          have HA5 := Lib.hid a5
          have HA6 : Hid (∀ g, Value.ownBlock u5 = some g → Value.ownBlock u3 ≠ some g) := Lib.hid (fun g hg e => by
            obtain ⟨ws, b1, _, _, b4, _⟩ := HN1.out
            have := HB.out.1 g hg
            have := b1.lt e
            omega)
          have HA7 : Hid (w.heap.size ≤ wr.heap.size) := Lib.hid (Nat.le_trans HU1.out.size HUj.out.size)
          obtain ⟨sa, sc, es⟩ := HS.out.form
          obtain ⟨sn, hsn⟩ : ∃ n, (natsC (ks.map fun k => (T.get k).size)).length = n := ⟨_, rfl⟩
          rw [hsn] at es
          subst es
          clear hsn
          have hvl : vs.length ≤ 100 := by rw [a2]; exact hsh
          clear a1 a2 a3 a4 a5
          go_wp2_with (first
            | ((with_reducible refine stopBS 31 _ _ rfl ?_); unfold Stop; refine wpList_sliceLit_blk rfl 31 42 1 _ rfl Try.underlying31 #[.slice sa sn sc] (by go_simp; first | done | rfl | kernel_rfl) ?_; intro bS w2 hbS kS hu2 hs2)
            | (at_builtin; refine wpList_append_rows _ rfl _ _ 31 rfl 42 i1 _ 24 Try.underlying31 hi1 hy0 hy3 hy4 rfl _ rfl _ (HA1.out.upd hu2 (fun _ _ h => h)) (.slice (some ⟨bS, 0, none⟩) 1 1) rfl [.slice sa sn sc] (row_lit kS) (fun u hu => by simp only [List.mem_cons, List.not_mem_nil, or_false] at hu; rw [hu]; rfl) (by unfold maxLen; show vs.length + 1 ≤ _; omega) (by show (vs.length + 1) * 24 ≤ _; omega) ?_; intro v3 w3 hr3 hu3 hn3))
          have hN4 : Hid (Nest w3 w.heap.size v3 (L ++ [ks.map fun k => (T.get k).size])) := Lib.hid (Nest.push (w := w2) (HA1.out.upd hu2 (fun _ _ h => h)) HA2.out (fun i x l hx hl => (HA3.out i x l hx hl).upd hu2 (fun _ _ h => h)) HA4.out HA5.out (HS.out.upd hu2 (fun _ _ h => h)) HA6.out (Nat.le_trans HA7.out hu2.size) hr3 hu3 hn3)
          go_roundg gz
          case measure => omega
          case rel => exact ⟨_, _, HE2, hN4, Lib.hid ((HX.out.upd hu2 (fun _ _ h => h)).upd hu3 (fun b hb e => by
            obtain ⟨ws, b1, _, _, b4, _⟩ := HN1.out
            have := HB.out.2.1 b hb
            have := b1.lt e
            omega)), Lib.hid (((HU1.out.then HUj.out (fun _ _ e => e)).then hu2 (fun _ _ e => e)).then hu3 (fun b hb e => by have := HA4.out b e; omega))⟩
theorem Shape_tr {w : World} {b : Nat} {O : Nat → Prop} {n : Nat} {ls : List ByteArray} (h : Tr w b O n ls) (hn : n ≤ 600000) :
    ∃ L, Told ls.length L ∧ Calls Try.prog 17 #[.pointer (some ⟨b, 0, none⟩)] w (SPost w L) := by
  obtain ⟨V, T, k, rfl, a2, a3, a4, a5, a6⟩ := h
  have hlow := a3.low (by omega)
  refine ⟨_, a3.told, Shape_any a2 _ (k + 1) (.inr ?_) (by rw [levels_len]; omega)⟩
  obtain ⟨fp, r, g⟩ := a3.rep
  refine ⟨k, [⟨T.root, ls, fp⟩], rfl, rfl, by simp, by simp, ?_, by simp [linesOf]; omega, rfl⟩
  intro s hs
  rcases List.mem_singleton.1 hs with rfl
  exact ⟨r, a3.le⟩
end Go.Proofs.Ytmklapbecdhnmaa
namespace Go.Proofs.Ytmklapbecdhnmaa
open Go.RowKit
section
variable {P : Program} {ops : Array Oper} {rest : List Oper} {op : Oper} {a : Act} {w : World} {Q : Exit → Act → World → Prop}
theorem stopMk (t : TypeId) (l c : Operand) (ho : op.op = .makeSlice t l c) (h : Stop (wpList P ops Q (op :: rest) a w)) : wpList P ops Q (op :: rest) a w := h
theorem wpList_make_one (hgd : op.guard = none) (l c : Operand) (t : TypeId) (hop : op.op = Op.makeSlice t l c) (e : TypeId) (i : TypeInfo) (v : Value) (h1 : P.underlying t = some (.slice e)) (h2 : P.info? e = some i) (h3 : i.zero = some v) (h5 : i.bytes ≤ 1000) (Z : Array Value) (hZ : madeCells v.cells (1 * i.size) = Z)
    (hl : a.eval l = .int .i64 1) (hc : a.eval c = .int .i64 1)
    (hK : ∀ b w', w.heap.size = b → w'.heap[b]? = some (.cells Z e (0, 0)) → Upd (fun _ => False) w w' → w'.heap.size = b + 1 → wpList P ops Q rest (a.put op.dst (.slice (some ⟨b, 0, none⟩) 1 1)) w') : wpList P ops Q (op :: rest) a w := by
  refine wpList_plain hgd fun _ hk => ?_
  have hr := run_make (P := P) w t e i v h1 h2 h3 .i64 .i64 1 1 (by omega) (Int.le_refl _) (by omega) (by omega)
  rw [show (1 : Int).toNat = 1 from rfl, hZ] at hr
  unfold Oper.wp
  simp only [execOp, hop, hl, hc, hr, Result.andThen, Sem.run_bind, Sem.run_pure]
  obtain ⟨g1, g2, g3⟩ := new_facts w (.cells Z e)
  exact hk _ _ (hK _ _ rfl g1 g2 g3)
end
theorem made_node : madeCells #[.slice none 0 0, .slice none 0 0, .int .i64 0] (1 * 3) = #[.slice none 0 0, .slice none 0 0, .int .i64 0] := by
  apply Array.toList_inj.1
  unfold madeCells
  simp [Array.range, List.range_succ]
theorem info_node1 : (Try.prog.info? 61).map (fun i => (i.zero, i.size, i.bytes)) = some (some (.agg #[.slice none 0 0, .slice none 0 0, .int .i64 0]), 3, 56) := by kernel_rfl
def newV (b g : Nat) : TV := ⟨b, g, 1, #[.slice none 0 0, .slice none 0 0, .int .i64 0], .slice none 0 0, fun _ => .slice none 0 0, fun _ => .slice none 0 0⟩
theorem new_own {b g k : Nat} {s : Slot} (h : (newV b g).own s = some k) : (s = .T ∧ k = b) ∨ (s = .N ∧ k = g) := by
  cases s with
  | T => injection h with h; exact .inl ⟨rfl, h.symm⟩
  | N => injection h with h; exact .inr ⟨rfl, h.symm⟩
  | F => cases h
  | L j => cases h
  | K j => cases h
theorem TA.new {w : World} {b g : Nat} (hb : w.heap[b]? = some (.cells #[.slice (some ⟨g, 0, none⟩) 1 1, .slice none 0 0, .int .i64 0, .int .i64 0] 57 (0, 0))) (hg : w.heap[g]? = some (.cells #[.slice none 0 0, .slice none 0 0, .int .i64 0] 61 (0, 0))) (hbg : b ≠ g) : TA w (newV b g) .new := by
  have z0 : TD.new.get 0 = .zero := rfl
  have zl : TD.new.nodes.length = 1 := rfl
  refine ⟨hb, hg, rfl, Nat.le_refl _, by show 1 ≤ maxLen; unfold maxLen; omega, fun k hk => ?_, .nil _ _, fun k hk => ?_, fun k hk => ?_, fun k _ => ⟨rfl, rfl⟩, fun s t k h1 h2 => ?_⟩
  · obtain rfl : k = 0 := by rw [zl] at hk; omega
    exact ⟨rfl, rfl, rfl⟩
  · obtain rfl : k = 0 := by rw [zl] at hk; omega
    exact .nil _ _
  · obtain rfl : k = 0 := by rw [zl] at hk; omega
    exact .nil _ _
  · rcases new_own h1 with ⟨rfl, e1⟩ | ⟨rfl, e1⟩ <;> rcases new_own h2 with ⟨rfl, e2⟩ | ⟨rfl, e2⟩
    · rfl
    · exact absurd (e1.symm.trans e2) hbg
    · exact absurd (e2.symm.trans e1) hbg
    · rfl
theorem Tr.new {w : World} {b g : Nat} (hb : w.heap[b]? = some (.cells #[.slice (some ⟨g, 0, none⟩) 1 1, .slice none 0 0, .int .i64 0, .int .i64 0] 57 (0, 0))) (hg : w.heap[g]? = some (.cells #[.slice none 0 0, .slice none 0 0, .int .i64 0] 61 (0, 0))) (hbg : b ≠ g) : Tr w b (fun k => k = b ∨ k = g) 1 [] :=
  ⟨_, _, 0, rfl, TA.new hb hg hbg, Inv.new, Nat.le_refl _, fun s hs => by (cases hs), fun k => ⟨fun ⟨s, hs⟩ => by
    rcases new_own hs with ⟨_, e⟩ | ⟨_, e⟩
    · exact .inl e
    · exact .inr e, fun h => by
    rcases h with rfl | rfl
    · exact ⟨.T, rfl⟩
    · exact ⟨.N, rfl⟩⟩⟩
theorem Insert_np {w wr : World} {b : Nat} {O : Nat → Prop} {n : Nat} {ls : List ByteArray} {j : Nat} (h : TrP w b O n (ls.take j) wr) (hn : n + 24 ≤ 600000) (hj : j < ls.length) (hs : ∀ s ∈ ls, s.size ≤ 140737488351232) :
    Calls Try.prog 12 #[.pointer (some ⟨b, 0, none⟩), .int .i64 (j : Int), .string ls[j]] wr fun e w' => e = .returned (.bool true) ∧ TrP w b O (n + 24) (ls.take (j + 1)) w' := by
  obtain ⟨O1, h1, h2, h3⟩ := h
  have hl : (ls.take j).length = j := by rw [List.length_take]; omega
  refine (Insert_tr h1 hn ls[j] (hs _ (List.getElem_mem hj)) (j : Int)).mono ?_
  rintro e w1 ⟨rfl, hp⟩
  rw [if_pos (by omega), Int.toNat_natCast] at hp
  have e : insL (ls.take j) j ls[j] = ls.take (j + 1) := by
    have := insL_end (ls.take j) ls[j]
    rw [hl] at this
    rw [this, List.take_append_getElem hj]
  rw [e] at hp
  exact ⟨by rw [decide_eq_true (by omega)], TrP.then h2 h3 hp⟩
def NewPost (w : World) (n : Nat) (ls : List ByteArray) (e : Ending) (w' : World) : Prop := ∃ b O, e = .returned (.pointer (some ⟨b, 0, none⟩)) ∧ Tr w' b O n ls ∧ Upd (fun _ => False) w w' ∧ ∀ k, O k → w.heap.size ≤ k
set_option maxRecDepth 100000 in
set_option maxHeartbeats 16000000 in
theorem New_tr {w : World} {F : Nat → Prop} (v : Value) (ls : List ByteArray) (hv : Rds F w v ls) (hs : ∀ s ∈ ls, s.size ≤ 140737488351232) (hn : 24 * (ls.length + 2) ≤ 600000) :
    Calls Try.prog 11 #[v] w (NewPost w (1 + 24 * ls.length) ls) := by
  obtain ⟨i0, hi, hz0, hz3, hz4⟩ := info_parts info_node1
  obtain ⟨a, c, rfl, hlc, hcm, hcell⟩ := id hv
  have HV : Hid (Rds (fun q => q < w.heap.size) w (.slice a ls.length c) ls) := Lib.hid (hv.mono (fun q h _ => h))
  have HSZ := Lib.hid hs
  obtain ⟨N, hN⟩ : ∃ N, ls.length = N := ⟨_, rfl⟩
  have HN := Lib.hid hN
  rw [hN] at hn hlc HV
  clear hv hs hcell
  rw [hN]
  clear hN
  go_enter Try.func11, Try.ntmps11
  go_wp2_with (first
    | ((with_reducible refine stopMk 55 _ _ rfl ?_); unfold Stop; refine wpList_make_one rfl _ _ 55 rfl 61 i0 _ Try.underlying55 hi hz0 (by rw [hz4]; decide) #[.slice none 0 0, .slice none 0 0, .int .i64 0] (by rw [hz3]; exact made_node) rfl rfl ?_; intro bG w2 hbG kG hu2 hs2)
    | ((with_reducible refine stopBx 57 _ rfl ?_); unfold Stop; refine wpList_box_blk rfl 57 _ rfl _ (by go_simp; first | done | exact rfl) #[.slice (some ⟨bG, 0, none⟩) 1 1, .slice none 0 0, .int .i64 0, .int .i64 0] rfl ?_; intro bT w3 hbT kT hu3 hs3))
  have HT3 : Hid (Tr w3 bT (fun k => k = bT ∨ k = bG) 1 []) := Lib.hid (Tr.new kT (hu3.heap kG (fun e => e)) (by omega))
  have HU3 : Hid (Upd (fun _ => False) w w3) := Lib.hid (hu2.then hu3 (fun _ _ e => e))
  have HB3 : Hid (∀ k, (k = bT ∨ k = bG) → w.heap.size ≤ k) := Lib.hid (by omega)
  have HV3 := Lib.hid (HV.out.upd HU3.out (fun _ _ e => e))
  clear kG kT hu2 hu3 hs2 hs3 hbG hbT
  go_loopg [11] N (fun gk iv wr => ∃ j : Nat, iv = .int .i64 (j : Int) ∧ j + gk = N ∧ Hid (TrP w3 bT (fun k => k = bT ∨ k = bG) (1 + 24 * j) (ls.take j) wr))
  case atStart => exact ⟨0, rfl, by omega, Lib.hid (TrP.refl HT3.out)⟩
  case round =>
    obtain ⟨j, rfl, hgk, HP⟩ := hrel
    by_cases hlt : j < N
    · have hjn : j < ls.length := by rw [HN.out]; exact hlt
      have hU : Upd (fun k => k = bT ∨ k = bG) w3 wr := by obtain ⟨_, _, q, _⟩ := HP.out; exact q
      obtain ⟨g, o, rfl, e1⟩ := (Rds.upd (ls := ls) HV3.out hU (fun q h e => by have := HB3.out q e; omega)).at j hjn
      have HC := Lib.hid (Insert_np HP.out (by omega) hjn HSZ.out)
      obtain ⟨x, hx⟩ : ∃ x, ls[j] = x := ⟨_, rfl⟩
      rw [hx] at e1 HC
      clear hU hx
      go_wp2_with (first
        | (go_at_call 12; refine HC.out.mono ?_; rintro e w5 ⟨rfl, hp5⟩))
      go_roundg (gk - 1)
      case measure => omega
      case rel => exact ⟨j + 1, by go_num, by omega, Lib.hid (by rw [show 1 + 24 * (j + 1) = 1 + 24 * j + 24 by omega]; exact hp5)⟩
    · obtain rfl : j = N := by omega
      rw [List.take_of_length_le (by rw [HN.out]; exact Nat.le_refl _)] at HP
      obtain ⟨O', q1, q2, q3⟩ := HP.out
      have HPost : Hid (NewPost w (1 + 24 * j) ls (.returned (.pointer (some ⟨bT, 0, none⟩))) wr) := Lib.hid ⟨bT, O', rfl, q1, HU3.out.then q2 (fun k h e => by have := HB3.out k e; omega), fun k hk => by
        rcases q3 k hk with e | e
        · exact HB3.out k e
        · have := HU3.out.size; omega⟩
      clear q1 q2 q3
      go_wp2
      go_ret
      exact HPost.out
end Go.Proofs.Ytmklapbecdhnmaa
namespace Go.Proofs.Ytmklapbecdhnmaa
open Go.RowKit
/-- The document's tree at b, in blocks of O. -/
def RT (w : World) (b : Nat) (O : Nat → Prop) (L : List ByteArray) : Prop :=
  ∃ v, w.heap[b]? = some (.cells #[v] 54 (0, 0)) ∧ Rds (fun k => O k ∧ k ≠ b) w v L ∧ O b ∧ L.length ≤ 50000 ∧ (∀ s ∈ L, s.size ≤ 140737488351232) ∧ ∀ k, O k → k < w.heap.size
def RTP (w : World) (b : Nat) (O : Nat → Prop) (L : List ByteArray) (w' : World) : Prop := ∃ O', RT w' b O' L ∧ Upd O w w' ∧ ∀ k, O' k → O k ∨ w.heap.size ≤ k
theorem RT.upd {F : Nat → Prop} {w w' : World} {b : Nat} {O : Nat → Prop} {L : List ByteArray} (h : RT w b O L) (hu : Upd F w w') (hn : ∀ k, O k → ¬ F k) : RT w' b O L := by
  obtain ⟨v, h1, h2, h3, h4, h5, h6⟩ := h
  exact ⟨v, hu.heap h1 (hn b h3), h2.upd hu (fun k hk => hn k hk.1), h3, h4, h5, fun k hk => Nat.lt_of_lt_of_le (h6 k hk) hu.size⟩
theorem RT.newer {w w' : World} {b : Nat} {O : Nat → Prop} {L : List ByteArray} (h : RT w b O L) (hu : Upd (fun _ => False) w w') : RT w' b O L := h.upd hu (fun _ _ e => e)
theorem RTP.refl {w : World} {b : Nat} {O : Nat → Prop} {L : List ByteArray} (h : RT w b O L) : RTP w b O L w := ⟨O, h, Upd.refl _ _, fun _ e => .inl e⟩
theorem RTP.then {w w1 w2 : World} {b : Nat} {O O1 : Nat → Prop} {L : List ByteArray} (hu : Upd O w w1) (hg : ∀ k, O1 k → O k ∨ w.heap.size ≤ k) (h : RTP w1 b O1 L w2) : RTP w b O L w2 := by
  obtain ⟨O2, a1, a2, a3⟩ := h
  refine ⟨O2, a1, hu.then a2 (fun i hi ho => ?_), fun k hk => ?_⟩
  · rcases hg i ho with e | e
    · exact e
    · omega
  · rcases a3 k hk with e | e
    · exact hg k e
    · right; have := hu.size; omega
theorem RT.own {w : World} {b : Nat} {O : Nat → Prop} {L : List ByteArray} (h : RT w b O L) : O b := by
  obtain ⟨v, h1, h2, h3, _⟩ := h
  exact h3
theorem RT.lt {w : World} {b : Nat} {O : Nat → Prop} {L : List ByteArray} (h : RT w b O L) {k : Nat} (hk : O k) : k < w.heap.size := by
  obtain ⟨v, h1, h2, h3, _, _, h6⟩ := h
  exact h6 k hk
theorem RT.form {w : World} {b : Nat} {O : Nat → Prop} {L : List ByteArray} (h : RT w b O L) : ∃ a c, w.heap[b]? = some (.cells #[.slice a L.length c] 54 (0, 0)) ∧ Rds (fun k => O k ∧ k ≠ b) w (.slice a L.length c) L := by
  obtain ⟨v, h1, h2, _⟩ := h
  obtain ⟨a, c, rfl, _⟩ := id h2
  exact ⟨a, c, h1, h2⟩
/-- The list has been put in. -/
theorem RT.put {w w' : World} {b : Nat} {O : Nat → Prop} {L M : List ByteArray} {v : Value} (h : RT w b O L) (hv : Row w 9 v (strsC M)) (hn : ∀ g, v.ownBlock = some g → g ≠ b) (hu : Upd (fun k => k = b) w w') (hb : w'.heap[b]? = some (.cells #[v] 54 (0, 0))) (hM : M.length ≤ 50000) (hs : ∀ s ∈ M, s.size ≤ 140737488351232) (O' : Nat → Prop) (hO : ∀ k, O' k ↔ k = b ∨ v.ownBlock = some k) : RT w' b O' M := by
  have hb0 : b < w.heap.size := h.lt h.own
  refine ⟨v, hb, ?_, (hO b).2 (.inl rfl), hM, hs, fun k hk => ?_⟩
  · exact ((Rds.of_row hv).upd hu (fun k e e2 => hn k e e2)).mono (fun k _ e => ⟨(hO k).2 (.inr e), hn k e⟩)
  · rcases (hO k).1 hk with e | e
    · have := hu.size; omega
    · have := hv.lt e; have := hu.size; omega
theorem RLen_any {w : World} {b : Nat} {O : Nat → Prop} {L : List ByteArray} (h : RT w b O L) :
    Calls Try.prog 27 #[.pointer (some ⟨b, 0, none⟩)] w fun e w' => e = .returned (.int .i64 (L.length : Int)) ∧ From w w' := by
  obtain ⟨a, c, h1, h2⟩ := h.form
  obtain ⟨N, hN⟩ : ∃ N, L.length = N := ⟨_, rfl⟩
  rw [hN] at h1 ⊢
  have c0 := cell_of h1 0 rfl
  clear h2
  go_enter Try.func27, Try.ntmps27
  go_wp2
  go_ret
  exact ⟨rfl, From.refl _⟩
theorem RPart_neg {w : World} {b : Nat} (i n : Int) (hi : i < 0 ∨ n < 0) :
    Calls Try.prog 42 #[.pointer (some ⟨b, 0, none⟩), .int .i64 i, .int .i64 n] w (PPost w false []) := by
  have fin : PPost w false [] (.returned (.tuple #[.slice none 0 0, .bool false])) w := ⟨_, rfl, .nil _ _, Upd.refl _ _, fun b hb => by cases hb⟩
  rcases Int.lt_or_le i 0 with h1 | h1
  · go_enter Try.func42, Try.ntmps42
    go_wp2
    go_ret2
    exact fin
  · have h2 : n < 0 := by omega
    have h3 : ¬ i < 0 := by omega
    go_enter Try.func42, Try.ntmps42
    go_wp2
    go_ret2
    exact fin
theorem RPart_high {w : World} {b : Nat} {O : Nat → Prop} {L : List ByteArray} (h : RT w b O L) (i n : Nat) (hi : L.length < i + n) (hn : (n : Int) ≤ 9223372036854775807) :
    Calls Try.prog 42 #[.pointer (some ⟨b, 0, none⟩), .int .i64 (i : Int), .int .i64 (n : Int)] w (PPost w false []) := by
  obtain ⟨_, _, _, _, hlen, _⟩ := id h
  obtain ⟨a, c, h1, h2⟩ := h.form
  obtain ⟨N, hN⟩ : ∃ N, L.length = N := ⟨_, rfl⟩
  rw [hN] at h1 hi hlen
  have c0 := cell_of h1 0 rfl
  have g0 : ¬ (i : Int) < 0 := by omega
  have g1 : ¬ (n : Int) < 0 := by omega
  have fin : PPost w false [] (.returned (.tuple #[.slice none 0 0, .bool false])) w := ⟨_, rfl, .nil _ _, Upd.refl _ _, fun b hb => by cases hb⟩
  have HF := Lib.hid fin
  clear fin h2
  rcases Nat.lt_or_ge N i with q | q
  · go_enter Try.func42, Try.ntmps42
    go_wp2
    go_ret2
    exact HF.out
  · have gs : IntKind.i64.wrap ((N : Int) - (i : Int)) = (N : Int) - i := IntWalk.i64_in _ (by omega)
    have g3 : (N : Int) - (i : Int) < (n : Int) := by omega
    have g4 : ¬ (N : Int) < (i : Int) := by omega
    go_enter Try.func42, Try.ntmps42
    go_wp2
    go_ret2
    exact HF.out
theorem RPart_in {w : World} {b : Nat} {O : Nat → Prop} {L : List ByteArray} (h : RT w b O L) (i n : Nat) (hi : i + n ≤ L.length) :
    Calls Try.prog 42 #[.pointer (some ⟨b, 0, none⟩), .int .i64 (i : Int), .int .i64 (n : Int)] w (PPost w true ((L.drop i).take n)) := by
  obtain ⟨_, _, _, _, hlen, _⟩ := id h
  obtain ⟨a, c, h1, h2⟩ := h.form
  obtain ⟨i0, hi0, hz0, hz3, hz4⟩ := info_parts info_str1
  have HR := Lib.hid h2
  obtain ⟨N, hN⟩ : ∃ N, L.length = N := ⟨_, rfl⟩
  rw [hN] at h1 hi hlen HR
  have HN := Lib.hid hN
  have c0 := cell_of h1 0 rfl
  have g0 : ¬ (i : Int) < 0 := by omega
  have g1 : ¬ (n : Int) < 0 := by omega
  have gs : IntKind.i64.wrap ((N : Int) - (i : Int)) = (N : Int) - i := IntWalk.i64_in _ (by omega)
  have gs2 : IntKind.i64.wrap ((i : Int) + (n : Int)) = ((i + n : Nat) : Int) := by rw [IntWalk.i64_in _ (by omega)]; omega
  have g3 : ¬ (N : Int) - (i : Int) < (n : Int) := by omega
  have g4 : ¬ (N : Int) < (i : Int) := by omega
  clear hN h h2
  go_enter Try.func42, Try.ntmps42
  go_wp2_with (first
    | ((with_reducible refine stopSl 22 _ _ _ _ rfl ?_); unfold Stop; refine wpList_cut rfl 22 9 _ _ _ rfl Try.underlying22 i0 hi0 hz3 _ rfl L HR.out i (i + n) (Nat.le_add_right _ _) (by rw [HN.out]; exact hi) (.inr ⟨_, rfl, rfl⟩) (.inr ⟨_, rfl, rfl⟩) ?_; intro a2 c2 hr2)
    | (at_builtin; refine wpList_append_rds rfl _ _ 22 rfl i0 _ Try.underlying22 hi0 hz0 hz3 hz4 rfl (.slice none 0 0) rfl [] (.nil _ _) _ rfl _ hr2 (by have := hr2.len.1; simp only [List.length_nil]; omega) ?_; intro v3 w3 hr3 hu3 hn3))
  go_ret2
  refine ⟨_, rfl, ?_, hu3.mono (fun k _ e => by cases e), fun g hg => ?_⟩
  · rw [List.nil_append] at hr3
    rw [← List.take_drop] at hr3
    exact hr3
  · rcases hn3 g hg with e | e
    · cases e
    · exact e
end Go.Proofs.Ytmklapbecdhnmaa
