/- The walk of the law RegsShift. -/
import Derived.Test.YtlhcojclfgbobaaRegN
import Derived.Test.YtlhcojclfgbobaaRegL
import Derived.Test.YtlhcojclfgbobaaRegM
import Derived.IntWalk
namespace Go.Proofs.Ytlhcojclfgbobaa
open Go.RowKit

/-- Registers' values in memory, one by one. -/
def RegsIn (w : World) (a : Option Addr) (ts : List RegD) : Prop :=
  ∀ i (h : i < ts.length), ∃ b o lv, a = some ⟨b, o, none⟩ ∧ w.cell? ⟨b, o + i * 2, none⟩ = some lv ∧ w.cell? ⟨b, o + i * 2 + 1, none⟩ = some (.bool ts[i].whole) ∧ StrsAt w lv ts[i].lines
theorem RegsIn.below {w w' : World} {a : Option Addr} {ts : List RegD} (h : RegsIn w a ts) (hu : Below w.heap.size w w') : RegsIn w' a ts := by
  intro i hi
  obtain ⟨b, o, lv, e, h0, h1, h2⟩ := h i hi
  exact ⟨b, o, lv, e, (false_upd hu).cell h0 (fun h => h), (false_upd hu).cell h1 (fun h => h), h2.below hu⟩

theorem op_one {W : World} {lv : Value} {x : RegD} (h : StrsAt W lv x.lines) (k c : Int) : OpsAt (W.alloc (.cells #[.int .u8 k, .int .u8 c, lv, .bool x.whole] 27)) (some ⟨W.heap.size, 0, none⟩) [⟨k, c, x⟩] := by
  intro i hi
  obtain rfl : i = 0 := by simp at hi; exact hi
  have hn := heap_alloc_new W (.cells #[.int .u8 k, .int .u8 c, lv, .bool x.whole] 27)
  exact ⟨W.heap.size, 0, lv, rfl, cell_of hn _ rfl, cell_of hn _ rfl, cell_of hn _ rfl, cell_of hn _ rfl, h.below ((Below.refl _ _).alloc (Nat.le_refl _) _)⟩
theorem heavy_one (k c : Int) (x : RegD) : heavyO [⟨k, c, x⟩] = decide ((60000 : Int) < wrap64 (sizeR x)) := by simp [heavyO, opsSum]

set_option maxRecDepth 100000 in
set_option maxHeartbeats 1000000 in
theorem shift_long (a : Option Addr) (cp : Nat) (ts : List RegD) (w : World) (hl : 20 < ts.length) (hn : ts.length ≤ 8796093021952) :
    Calls Try.prog 5 #[.slice a ts.length cp] w fun e w' => e = .returned (.bool true) ∧ Below w.heap.size w w' := by
  have hl' : (20 : Int) < (ts.length : Int) := by omega
  go_enter Try.func5, Try.ntmps5
  go_wp2_with (go_at_call 10; refine (known_any _).mono ?_; rintro e w1 ⟨rfl, hq⟩)
  go_ret
  exact ⟨rfl, hq⟩

def shortR (x : RegD) : Prop := x.lines.length ≤ 8796093021952
def shM2 (ts : List RegD) (i : Nat) : Int → Option RegD := afterR (ts.take i).reverse
def shOk (ts : List RegD) (i : Nat) : Prop := ∀ x ∈ ts.take i, x.lines ≠ [] ∧ wrap64 (sizeR x) ≤ 20000
theorem shM2_succ {ts : List RegD} {i : Nat} (h : i < ts.length) : shM2 ts (i + 1) = (cutM (shM2 ts i) 34 ts[i]).2 := by
  unfold shM2
  rw [List.take_succ_eq_append_getElem h, List.reverse_append]
  rfl
theorem shOk_succ {ts : List RegD} {i : Nat} (h : i < ts.length) (ho : shOk ts i) (hx : ts[i].lines ≠ [] ∧ wrap64 (sizeR ts[i]) ≤ 20000) : shOk ts (i + 1) := by
  intro x hm
  rw [List.take_succ_eq_append_getElem h, List.mem_append] at hm
  rcases hm with hm | hm
  · exact ho x hm
  · simp only [List.mem_singleton] at hm; subst hm; exact hx
theorem smallI_digit {k : Nat} (h : k ≤ 9) : smallI (48 + (k : Int)) = 48 + (k : Int) ∧ knownN (48 + (k : Int)) = true := by
  have : k = 0 ∨ k = 1 ∨ k = 2 ∨ k = 3 ∨ k = 4 ∨ k = 5 ∨ k = 6 ∨ k = 7 ∨ k = 8 ∨ k = 9 := by omega
  rcases this with rfl | rfl | rfl | rfl | rfl | rfl | rfl | rfl | rfl | rfl <;> decide
theorem getM_digit (ts : List RegD) (ho : shOk ts ts.length) {k : Nat} (h0 : 1 ≤ k) (h9 : k ≤ 9) :
    (∀ (h : k ≤ ts.length), getM (shM2 ts ts.length) (48 + (k : Int)) = (ts[ts.length - k]'(by omega), 0)) ∧ (ts.length < k → (getM (shM2 ts ts.length) (48 + (k : Int))) = (⟨[], false⟩, 111)) := by
  unfold shOk at ho
  unfold shM2
  rw [List.take_length] at ho ⊢
  have h := after_rev ts.reverse (fun x hx => ho x (List.mem_reverse.1 hx))
  have hk := h.1 (k - 1) (by omega)
  have e : (49 : Int) + ((k - 1 : Nat) : Int) = 48 + (k : Int) := by omega
  rw [e] at hk
  obtain ⟨hs, hkn⟩ := smallI_digit h9
  unfold getM
  rw [hs, hkn, hk]
  refine ⟨fun hle => ?_, fun hlt => ?_⟩
  · have e2 : ts.reverse[k - 1]? = some (ts[ts.length - k]'(by omega)) := by
      rw [List.getElem?_reverse (by omega), List.getElem?_eq_getElem (by omega)]
      congr 2
      omega
    rw [e2]
    have := ho _ (List.getElem_mem (show ts.length - k < ts.length by omega))
    simp [clone_same this.1]
  · have e2 : ts.reverse[k - 1]? = none := by simp; omega
    rw [e2]
    simp
theorem getM_zero (ts : List RegD) (ho : shOk ts ts.length) : (getM (shM2 ts ts.length) 48) = (⟨[], false⟩, 111) := by
  unfold shOk at ho
  unfold shM2
  rw [List.take_length] at ho ⊢
  have h := after_rev ts.reverse (fun x hx => ho x (List.mem_reverse.1 hx))
  obtain ⟨hs, hkn⟩ := smallI_digit (k := 0) (by omega)
  simp only [Int.natCast_zero, Int.add_zero] at hs hkn
  unfold getM
  rw [hs, hkn, h.2]
  rfl

set_option maxRecDepth 100000 in
set_option maxHeartbeats 8000000 in
theorem shift_law (a : Option Addr) (cp : Nat) (ts : List RegD) (w : World) (ht : RegsIn w a ts) (hn : ts.length ≤ 8796093021952) (hl : ∀ t ∈ ts, t.lines.length ≤ 8796093021952) (hy : ∀ t ∈ ts, ∀ y ∈ t.lines, y.length ≤ 1000000000000000) :
    Calls Try.prog 5 #[.slice a ts.length cp] w fun e w' => e = .returned (.bool true) ∧ Below w.heap.size w w' := by
  by_cases h20 : 20 < ts.length
  · exact shift_long a cp ts w h20 hn
  have hl' : ¬ (20 : Int) < (ts.length : Int) := by omega
  go_enter Try.func5, Try.ntmps5
  go_wp2_with (first
    | (go_at_call 10; refine (known_any _).mono ?_; rintro e w1 ⟨rfl, hq⟩)
    | (go_at_call 11
       refine (New_any w1).mono ?_
       rintro e w2 ⟨rfl, hR, hB, hz⟩))
  have hp : w1.heap.size < w2.heap.size := by omega
  have hq2 : Below w.heap.size w w2 := hq.trans (hB.mono hq.size)
  have HQ := Lib.hid hq2
  have HT := Lib.hid (ht.below (hq2.mono (Nat.le_refl _)))
  have HL := Lib.hid hl
  have HY := Lib.hid hy
  obtain ⟨p, hpe⟩ : ∃ p, w1.heap.size + 1 = p := ⟨_, rfl⟩
  obtain ⟨mb, hme⟩ : ∃ mb, w1.heap.size = mb := ⟨_, rfl⟩
  rw [hpe, hme] at hR
  rw [hpe]
  have hR0 := Lib.hid hR
  have hmw : w.heap.size ≤ mb := by rw [← hme]; exact hq.size
  clear hpe hme hq2 hq hB hz hl hy ht hp
  go_loopw [4, 5, 6] (fun iv nv kv wr => ∃ (i n : Nat) (V : Int → Option Value), i ≤ ts.length ∧ iv = .int .i64 i ∧ RegsAt wr p mb n V (shM2 ts i) ∧ n ≤ i * 20 ∧ shOk ts i ∧ Upd (fun k => k = mb) w2 wr) (fun iv nv kv _ => ts.length - (intOf iv).toNat)
  case atStart => exact ⟨0, 0, _, by omega, rfl, hR, by omega, fun x hx => by simp at hx, Upd.refl _ _⟩
  case round =>
    obtain ⟨i, n, V, hi, rfl, hR, hni, hok, hU⟩ := hrel
    have hmr : mb < wr.heap.size := hR.map.lt
    have hBr : Below w.heap.size w wr := HQ.out.trans (hU.below HQ.out.size (fun k hk e => by omega))
    have HBr := Lib.hid hBr
    have hT2 : RegsIn wr a ts := by
      intro j hj
      obtain ⟨b, o, lv, e, h0, h1, h2⟩ := HT.out j hj
      have nb : ∀ b o, w2.cell? ⟨b, o, none⟩ ≠ none → ¬ b = mb := fun b o h e => h (by subst e; exact hR0.out.map.nocell o none)
      refine ⟨b, o, lv, e, hU.cell h0 (nb _ _ (by rw [h0]; simp)), hU.cell h1 (nb _ _ (by rw [h1]; simp)), ?_⟩
      obtain ⟨sa, sc, rfl, hs⟩ := h2
      refine ⟨sa, sc, rfl, fun q hq => ?_⟩
      obtain ⟨b3, o3, e3, hc3⟩ := hs q hq
      exact ⟨b3, o3, e3, hU.cell hc3 (nb _ _ (by rw [hc3]; simp))⟩
    have HT2 := Lib.hid hT2
    by_cases hlt : i < ts.length
    · have hn2 : n ≤ 900000000 := by omega
      have Hs2 := Lib.hid (shM2_succ hlt)
      have Ho2 := Lib.hid (shOk_succ hlt hok)
      have hl1 := HL.out ts[i] (List.getElem_mem hlt)
      have HY1 := Lib.hid (HY.out ts[i] (List.getElem_mem hlt))
      obtain ⟨b, o, lv, rfl, c0, c1, hst⟩ := hT2 i hlt
      have Hst := Lib.hid hst
      have HR := Lib.hid hR
      have HU := Lib.hid hU
      generalize ts[i] = x at *
      obtain ⟨la, lc, rfl, hcell⟩ := hst
      have HC := Lib.hid hcell
      clear hBr hT2 hok hR hU hcell
      by_cases hh : (60000 : Int) < wrap64 (sizeR x)
      · have Hh := Lib.hid hh
        clear hh
        go_wp2_with (go_at_call 9
                     have ho := op_one Hst.out 0 0
                     refine (heavy_any _ 1 [⟨0, 0, x⟩] _ ho (by simp) (by simp; exact hl1) (by simp; exact HY1.out)).mono ?_
                     rw [heavy_one, decide_eq_true Hh.out]
                     rintro e w3 ⟨rfl, rfl⟩)
        go_ret
        exact ⟨rfl, HBr.out.alloc (HBr.out.size) _⟩
      · have Hh : Hid (decide ((60000 : Int) < wrap64 (sizeR x)) = false) := Lib.hid (by simp; omega)
        clear hh
        have hB3 := (Below.refl wr.heap.size wr).alloc (Nat.le_refl _) (Obj.cells #[.int .u8 0, .int .u8 0, .slice la x.lines.length lc, .bool x.whole] 27)
        have ho := op_one Hst.out 0 0
        have d0 := (false_upd hB3).cell c0 (fun h => h)
        have d1 := (false_upd hB3).cell c1 (fun h => h)
        by_cases hne : x.lines = []
        · have hz : x.lines.length = 0 := by rw [hne]; rfl
          have hz2 : ((x.lines.length : Int) == 0) = true := by simp [hz]
          clear hz hne
          go_wp2_with (go_at_call 9
                       refine (heavy_any _ 1 [⟨0, 0, x⟩] _ ho (by simp) (by simp; exact hl1) (by simp; exact HY1.out)).mono ?_
                       rw [heavy_one, Hh.out]
                       rintro e w3 ⟨rfl, rfl⟩)
          go_ret
          exact ⟨rfl, HBr.out.trans (hB3.mono HBr.out.size)⟩
        · have hz : 0 < x.lines.length := List.length_pos_iff.2 hne
          have hz2 : ((x.lines.length : Int) == 0) = false := by simp; exact hne
          go_wp2_with (go_at_call 9
                       refine (heavy_any _ 1 [⟨0, 0, x⟩] _ ho (by simp) (by simp; exact hl1) (by simp; exact HY1.out)).mono ?_
                       rw [heavy_one, Hh.out]
                       rintro e w3 ⟨rfl, rfl⟩)
          clear ho d0 d1
          obtain ⟨W, hW, k0, k1, hst3, hR3, hB3'⟩ : ∃ W, wr.alloc (Obj.cells #[.int .u8 0, .int .u8 0, .slice la x.lines.length lc, .bool x.whole] 27) = W ∧ W.cell? ⟨b, o + i * 2, none⟩ = some (.slice la x.lines.length lc) ∧ W.cell? ⟨b, o + i * 2 + 1, none⟩ = some (.bool x.whole) ∧ Hid (StrsAt W (.slice la x.lines.length lc) x.lines) ∧ Hid (RegsAt W p mb n V (shM2 ts i)) ∧ Hid (Below wr.heap.size wr W) :=
            ⟨_, rfl, (false_upd hB3).cell c0 (fun h => h), (false_upd hB3).cell c1 (fun h => h), Lib.hid (Hst.out.below hB3), Lib.hid (HR.out.below hB3), Lib.hid hB3⟩
          rw [hW]
          clear hW c0 c1 hB3
          have HC3 : Hid (∀ i (hi : i < x.lines.length), ∃ b o, la = some ⟨b, o, none⟩ ∧ W.cell? ⟨b, o + i, none⟩ = some (strV x.lines[i])) := Lib.hid (by
            obtain ⟨ra, rc, e, hc⟩ := hst3.out
            cases e
            exact hc)
          have HX : Hid (RegAt W (.agg #[.slice la x.lines.length lc, .bool x.whole]) x) := Lib.hid ⟨_, rfl, hst3.out⟩
          have Hcut : Hid (∀ M, wrap64 (sizeR x) ≤ 20000 → cutM M 34 x = (0, (cutM M 34 x).2)) := Lib.hid (fun M h => by rw [cut_plain M x hne h])
          have Hlx : Hid (shortR x) := Lib.hid hl1
          have Hsz : Hid (sizeR x = x.lines.length + sumL x.lines) := Lib.hid rfl
          generalize x.lines = xs at *
          go_loop [5, 6] (fun nv kv => ∃ (k : Nat), k ≤ xs.length ∧ kv = .int .i64 k ∧ nv = .int .i64 (wrap64 ((k + sumL (xs.take k) : Nat) : Int))) (fun nv kv => xs.length - (intOf kv).toNat)
          case atStart => exact ⟨0, by omega, rfl, by simp [sumL, wrap64]⟩
          case round =>
            obtain ⟨k, hk, rfl, rfl⟩ := hrel
            by_cases hlt2 : k < xs.length
            · obtain ⟨b2, o2, rfl, hc2⟩ := HC3.out k hlt2
              have Hq : Hid (k + 1 + sumL (xs.take (k + 1)) = (k + sumL (xs.take k)) + (xs[k].length + 1)) := Lib.hid (by have := sumL_take xs k hlt2; omega)
              simp only [strV] at hc2
              have hyl : xs[k].length ≤ 1000000000000000 := HY1.out _ (List.getElem_mem hlt2)
              generalize xs[k] = y at *
              generalize k + sumL (xs.take k) = t1 at *
              go_wp2
              go_round
              case rel => exact ⟨k + 1, by omega, by go_num, by rw [Hq.out, wrap_add]; simp⟩
              case measure => simp [intOf]; omega
            · obtain rfl : k = xs.length := by omega
              rw [List.take_length, ← Hsz.out]
              by_cases hbig : (20000 : Int) < wrap64 (sizeR x)
              · go_wp2
                go_ret
                exact ⟨rfl, HBr.out.trans (hB3'.out.mono HBr.out.size)⟩
              · have hb2 : wrap64 (sizeR x) ≤ 20000 := by omega
                have hcz := Hcut.out (shM2 ts i) hb2
                have Hcz := Lib.hid hcz
                have Ho3 := Lib.hid (Ho2.out ⟨hne, hb2⟩)
                clear hcz
                go_wp2_with (go_at_call 15
                             refine (Cut_any p mb n V (shM2 ts i) 34 (by decide) (by decide) _ x W hR3.out HX.out hn2 Hlx.out (fun _ h => absurd small34 h)).mono ?_
                             rw [Hcz.out]
                             rintro e w4 ⟨n4, V4, rfl, hR4, hn4, hU4⟩)
                go_roundw
                case rel => exact ⟨i + 1, n4, V4, by omega, by go_num, by rw [Hs2.out]; exact hR4, by omega, Ho3.out, HU.out.then (((false_upd hB3'.out).mono (fun _ _ h => h.elim)).then hU4 (fun _ _ h => h)) (fun _ _ h => h)⟩
                case measure => simp [intOf]; omega
    · obtain rfl : i = ts.length := by omega
      have HR := Lib.hid hR
      have Hk := Lib.hid (fun k h0 h9 => getM_digit ts hok (k := k) h0 h9)
      have Hz := Lib.hid (getM_zero ts hok)
      generalize shM2 ts ts.length = M at *
      clear hBr hT2 hR hU hok
      go_wp2
      obtain ⟨W, hW⟩ : ∃ W, wr = W := ⟨_, rfl⟩
      subst hW
      go_loopw [7, 8, 9] (fun kv xv ev w3 => ∃ (k : Nat), 1 ≤ k ∧ k ≤ 10 ∧ kv = .int .i64 k ∧ Below wr.heap.size wr w3) (fun kv xv ev _ => 10 - (intOf kv).toNat)
      case atStart => exact ⟨1, by omega, by omega, rfl, Below.refl _ _⟩
      case round =>
        obtain ⟨k, hk1, hk2, rfl, hB⟩ := hrel
        have HB := Lib.hid hB
        have HRk := Lib.hid (HR.out.below hB)
        have HTk := Lib.hid (HT2.out.below hB)
        clear hB
        by_cases hk9 : k ≤ 9
        · by_cases hle : k ≤ ts.length
          · have HG := Lib.hid ((Hk.out k hk1 hk9).1 hle)
            obtain ⟨b, o, lv, rfl, c0, c1, hst⟩ := HTk.out (ts.length - k) (by omega)
            have hlx := HL.out ts[ts.length - k] (List.getElem_mem (by omega))
            have Hst := Lib.hid hst
            generalize ts[ts.length - k]'(by omega) = x at *
            obtain ⟨la, lc, rfl, hcell⟩ := hst
            have HC := Lib.hid hcell
            clear hcell
            go_wp2_with (go_at_call 13
                         refine (Get_any p mb n V M (48 + (k : Int)) (by omega) (by omega) _ HRk.out).mono ?_
                         rw [HG.out]
                         rintro e w4 ⟨u, rfl, ⟨_, rfl, ga, gc, rfl, hx⟩, hb4⟩
                         replace c0 := (false_upd hb4).cell c0 (fun h => h)
                         replace c1 := (false_upd hb4).cell c1 (fun h => h)
                         have hcx := Hst.out.below hb4)
            obtain ⟨W, hW, d0, hB5⟩ : ∃ W, w4.alloc (Obj.cells #[.slice ga x.lines.length gc, .bool x.whole] 24) = W ∧ W.heap[w4.heap.size]? = some (.cells #[.slice ga x.lines.length gc, .bool x.whole] 24 (0, 0)) ∧ Below w4.heap.size w4 W := ⟨_, rfl, heap_alloc_new _ _, (Below.refl _ _).alloc (Nat.le_refl _) _⟩
            rw [hW]
            clear hW
            have HA := Lib.hid (show RegAt W (.agg #[.slice ga x.lines.length gc, .bool x.whole]) x from ⟨_, rfl, StrsAt.below ⟨ga, gc, rfl, hx⟩ hB5⟩)
            have HD := Lib.hid (show RegAt W (.agg #[.slice la x.lines.length lc, .bool x.whole]) x from ⟨_, rfl, hcx.below hB5⟩)
            have s0 := cell_of d0 0 (v := .slice ga x.lines.length gc) rfl
            have s1 := cell_of d0 1 (v := .bool x.whole) rfl
            replace c0 := (false_upd hB5).cell c0 (fun h => h)
            replace c1 := (false_upd hB5).cell c1 (fun h => h)
            have hBW : Below wr.heap.size wr W := hb4.trans (hB5.mono hb4.size)
            clear hx hcx d0 hB5 hb4
            have hle2 : decide ((k : Int) ≤ (ts.length : Int)) = true := by simp; omega
            have hsub : IntKind.i64.wrap ((ts.length : Int) - (k : Int)) = ((ts.length - k : Nat) : Int) := by rw [IntWalk.i64_in _ (by omega)]; omega
            have hlt3 : ts.length - k < ts.length := by omega
            generalize ts.length - k = q at *
            clear HC Hst
            first | (refine wq_region_from_still ?_) | (refine wq_region_from (by kernel_rfl) (by kernel_rfl) ?_)
            repeat
              first
                | ((refine WQ_skip (by rfl) ?_); (try simp only [Act.put, List.setIfInBounds_toArray, List.set_cons_zero, List.set_cons_succ]))
                | (apply WQ_val (by rfl); (focus (intro w' hC; (have g0 := From.cell hC s0; have g1 := From.cell hC s1; have g2 := From.cell hC c0; have g3 := From.cell hC c1); go_simp; (first | done | exact rfl))); (try simp only [Act.put, List.setIfInBounds_toArray, List.set_cons_zero, List.set_cons_succ]))
                | (apply WQ_call (by rfl); (focus (intro w' hC; go_simp; (first | done | exact rfl | exact ⟨rfl, rfl⟩))); (focus (intro w' hC; first | (have hh := RSame_any _ _ x x _ (RegAt.below HA.out hC) (RegAt.below HD.out hC) hlx hlx; rw [sameR_self] at hh; exact From.of_calls hC hh))); (try simp only [Act.put, List.setIfInBounds_toArray, List.set_cons_zero, List.set_cons_succ]))
            refine WQ_nil ?_
            intro wq hq
            go_wp2
            go_roundw
            case rel => exact ⟨k + 1, by omega, by omega, by go_num, HB.out.trans ((hBW.trans (hq.mono hBW.size)).mono HB.out.size)⟩
            case measure => simp [intOf]; omega
          · have HG := Lib.hid ((Hk.out k hk1 hk9).2 (by omega))
            have hle2 : decide ((k : Int) ≤ (ts.length : Int)) = false := by simp; omega
            go_wp2_with (go_at_call 13
                         refine (Get_any p mb n V M (48 + (k : Int)) (by omega) (by omega) _ HRk.out).mono ?_
                         rw [HG.out]
                         rintro e w4 ⟨u, rfl, ⟨_, rfl, ga, gc, rfl, hx⟩, hb4⟩)
            obtain ⟨W, hW, hB5⟩ : ∃ W, w4.alloc (Obj.cells #[.slice ga 0 gc, .bool false] 24) = W ∧ Below w4.heap.size w4 W := ⟨_, rfl, (Below.refl _ _).alloc (Nat.le_refl _) _⟩
            clear hx
            rw [hW]
            clear hW
            have hBW : Below wr.heap.size wr W := hb4.trans (hB5.mono hb4.size)
            clear hB5 hb4
            first | (refine wq_region_from_still ?_) | (refine wq_region_from (by kernel_rfl) (by kernel_rfl) ?_)
            repeat
              first
                | ((refine WQ_skip (by rfl) ?_); (try simp only [Act.put, List.setIfInBounds_toArray, List.set_cons_zero, List.set_cons_succ]))
                | (apply WQ_val (by rfl); (focus (intro w' hC; skip; go_simp; (first | done | exact rfl))); (try simp only [Act.put, List.setIfInBounds_toArray, List.set_cons_zero, List.set_cons_succ]))
                | (apply WQ_call (by rfl); (focus (intro w' hC; go_simp; (first | done | exact rfl | exact ⟨rfl, rfl⟩))); (focus (intro w' hC; first | fail)); (try simp only [Act.put, List.setIfInBounds_toArray, List.set_cons_zero, List.set_cons_succ]))
            refine WQ_nil ?_
            intro wq hq
            go_wp2
            go_roundw
            case rel => exact ⟨k + 1, by omega, by omega, by go_num, HB.out.trans ((hBW.trans (hq.mono hBW.size)).mono HB.out.size)⟩
            case measure => simp [intOf]; omega
        · obtain rfl : k = 10 := by omega
          go_wp2_with (go_at_call 13
                       refine (Get_any p mb n V M 48 (by omega) (by omega) _ HRk.out).mono ?_
                       rw [Hz.out]
                       rintro e w4 ⟨u, rfl, ⟨_, rfl, ga, gc, rfl, hx⟩, hb4⟩)
          go_ret
          have hB5 := HBr.out.trans ((HB.out.trans (hb4.mono HB.out.size)).mono HBr.out.size)
          exact ⟨rfl, hB5.alloc hB5.size _⟩
end Go.Proofs.Ytlhcojclfgbobaa
