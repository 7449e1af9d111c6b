/- The walk of the law RegsAdd. -/
import Derived.Test.YtlhcojclfgbobaaRegQ
import Derived.Lib.Strings
namespace Go.Proofs.Ytlhcojclfgbobaa
open Go.RowKit

theorem yank_great (M : Int → Option RegD) (j : Nat) (h : j < 26) (a x : RegD) (hM : M (97 + (j : Int)) = some a) :
    yankM M (65 + (j : Int)) x = if (20000 : Int) < wrap64 (sizeR (bothR a x.clone)) then (112, M) else (0, setM (setM M (97 + (j : Int)) (some (bothR a x.clone))) 34 (some (bothR a x.clone))) := by
  obtain ⟨_, _, h1, h2⟩ := letter_facts j h
  have hl : layM M (65 + (j : Int)) x.clone = if (20000 : Int) < wrap64 (sizeR (bothR a x.clone)) then (112, M) else (0, setM (setM M (97 + (j : Int)) (some (bothR a x.clone))) 34 (some (bothR a x.clone))) := by
    have hx : laidX M (65 + (j : Int)) x.clone = bothR a x.clone := by unfold laidX; rw [if_neg (by rw [h1]; omega), h1, hM]
    unfold layM
    rw [hx, h1, if_neg (by simp [h2]), if_neg (by omega)]
  unfold yankM
  generalize layM M (65 + (j : Int)) x.clone = L at *
  rw [if_neg (fun hh => by have h2 := hh.2; clear hh hl; omega)]
  exact hl

theorem op_two {W : World} {n : Nat} {lv lu : Value} {x y : RegD} (h : StrsAt W lv x.lines) (h2 : StrsAt W lu y.lines) (hz : W.heap.size = n) : OpsAt (W.alloc (.cells #[.int .u8 0, .int .u8 0, lv, .bool x.whole, .int .u8 0, .int .u8 0, lu, .bool y.whole] 27)) (some ⟨n, 0, none⟩) [⟨0, 0, x⟩, ⟨0, 0, y⟩] := by
  subst hz
  have hn := heap_alloc_new W (.cells #[.int .u8 0, .int .u8 0, lv, .bool x.whole, .int .u8 0, .int .u8 0, lu, .bool y.whole] 27)
  have hb := (Below.refl W.heap.size W).alloc (Nat.le_refl _) (.cells #[.int .u8 0, .int .u8 0, lv, .bool x.whole, .int .u8 0, .int .u8 0, lu, .bool y.whole] 27)
  intro i hi
  match i, hi with
  | 0, _ => exact ⟨W.heap.size, 0, lv, rfl, cell_of hn _ rfl, cell_of hn _ rfl, cell_of hn _ rfl, cell_of hn _ rfl, h.below hb⟩
  | 1, _ => exact ⟨W.heap.size, 0, lu, rfl, cell_of hn _ rfl, cell_of hn _ rfl, cell_of hn _ rfl, cell_of hn _ rfl, h2.below hb⟩

/-- What comes of the two yanks. -/
theorem add_two (nm : Int) (n0 : 0 ≤ nm) (n1 : nm ≤ 255) (a b : RegD) (ha : a.lines ≠ []) (hb : b.lines ≠ []) :
    (yankM (fun _ => none) (97 + nm % 26) a).1 = 112 ∨ ((yankM (fun _ => none) (97 + nm % 26) a).1 = 0 ∧
      ((yankM (yankM (fun _ => none) (97 + nm % 26) a).2 (97 + nm % 26 - 32) b).1 = 112 ∨ ((yankM (yankM (fun _ => none) (97 + nm % 26) a).2 (97 + nm % 26 - 32) b).1 = 0 ∧
        getM (yankM (yankM (fun _ => none) (97 + nm % 26) a).2 (97 + nm % 26 - 32) b).2 (97 + nm % 26) = (bothD a b, 0)))) := by
  have e : (((nm % 26).toNat : Nat) : Int) = nm % 26 := by omega
  have h1 := yank_letter (fun _ => none) (nm % 26).toNat (by omega) a
  obtain ⟨s1, s2, s3, s4⟩ := letter_facts (nm % 26).toNat (by omega)
  rw [e] at h1 s1 s2
  have hca := clone_same ha
  have hcb := clone_same hb
  rw [hca] at h1
  rw [h1]
  by_cases hc : (20000 : Int) < wrap64 (sizeR a)
  · rw [if_pos hc]; exact .inl rfl
  · rw [if_neg hc]
    right
    refine ⟨rfl, ?_⟩
    have h2 := yank_great (setM (setM (fun _ => none) (97 + nm % 26) (some a)) 34 (some a)) (nm % 26).toNat (by omega) a b (by rw [e]; simp only [setM]; rw [if_neg (by omega), if_pos trivial])
    rw [e, show 65 + nm % 26 = 97 + nm % 26 - 32 by omega] at h2
    have hbd : bothR a b.clone = bothD a b := by unfold bothR; rw [hca, hcb, hcb]
    rw [hbd] at h2
    have hne : (bothD a b).lines ≠ [] := (bothD_size a b ha hb).2
    generalize bothD a b = D at *
    simp only at h2 ⊢
    rw [h2]
    by_cases hd : (20000 : Int) < wrap64 (sizeR D)
    · rw [if_pos hd]; exact .inl rfl
    · rw [if_neg hd]
      right
      refine ⟨rfl, ?_⟩
      rw [getM_hit (r := D) s2 (by rw [s1]; simp only [setM]; rw [if_neg (by omega), if_pos trivial]), clone_same hne]

/-- A line of both. -/
theorem both_len (a b : RegD) (ha : a.lines ≠ []) (hb : b.lines ≠ []) : (bothD a b).whole = (a.whole || b.whole) ∧ (bothD a b).lines.length = if (a.whole || b.whole) = true then a.lines.length + b.lines.length else a.lines.length + b.lines.length - 1 := by
  have h1 := List.length_pos_iff.2 ha
  have h2 := List.length_pos_iff.2 hb
  unfold bothD
  cases h : (a.whole || b.whole)
  · simp; omega
  · simp
theorem both_at (a b : RegD) (ha : a.lines ≠ []) (hb : b.lines ≠ []) (i : Nat) (hi : i < (bothD a b).lines.length) :
    ((a.whole || b.whole) = true → (∀ (h : i < a.lines.length), (bothD a b).lines[i] = a.lines[i]) ∧ (a.lines.length ≤ i → ∃ h : i - a.lines.length < b.lines.length, (bothD a b).lines[i] = b.lines[i - a.lines.length])) ∧
    ((a.whole || b.whole) = false → (∀ (h : i + 1 < a.lines.length), (bothD a b).lines[i] = a.lines[i]) ∧ (i + 1 = a.lines.length → ∃ (h : i < a.lines.length) (h2 : 0 < b.lines.length), (bothD a b).lines[i] = a.lines[i] ++ b.lines[0]) ∧
      (a.lines.length ≤ i → ∃ h : i + 1 - a.lines.length < b.lines.length, (bothD a b).lines[i] = b.lines[i + 1 - a.lines.length])) := by
  obtain ⟨xs, wa⟩ := a
  obtain ⟨ys, wb⟩ := b
  simp only at *
  obtain ⟨xs0, p, rfl⟩ : ∃ xs0 p, xs = xs0 ++ [p] := ⟨xs.dropLast, xs.getLast ha, (List.dropLast_concat_getLast ha).symm⟩
  obtain ⟨q, ys0, rfl⟩ : ∃ q ys0, ys = q :: ys0 := by cases ys with | nil => exact absurd rfl hb | cons q ys0 => exact ⟨q, ys0, rfl⟩
  refine ⟨fun hw => ?_, fun hw => ?_⟩
  · have e : (bothD ⟨xs0 ++ [p], wa⟩ ⟨q :: ys0, wb⟩).lines = (xs0 ++ [p]) ++ (q :: ys0) := by unfold bothD; rw [if_pos hw]
    simp only [e] at hi ⊢
    refine ⟨fun h => List.getElem_append_left h, fun h => ⟨by simp at hi h ⊢; omega, List.getElem_append_right h⟩⟩
  · have e : (bothD ⟨xs0 ++ [p], wa⟩ ⟨q :: ys0, wb⟩).lines = xs0 ++ ((p ++ q) :: ys0) := by unfold bothD; rw [if_neg (by simp [hw])]; simp
    simp only [e] at hi ⊢
    refine ⟨fun h => ?_, fun h => ⟨by omega, by simp, ?_⟩, fun h => ⟨by simp at hi h ⊢; omega, ?_⟩⟩
    · simp only [List.length_append, List.length_cons, List.length_nil] at h
      rw [List.getElem_append_left (by omega), List.getElem_append_left (by omega)]
    · simp only [List.length_append, List.length_cons, List.length_nil] at h
      have : i = xs0.length := by omega
      subst this
      simp
    · simp only [List.length_append, List.length_cons, List.length_nil] at h ⊢
      rw [List.getElem_append_right (by omega)]
      have e2 : i - xs0.length = (i + 1 - (xs0.length + (0 + 1))) := by omega
      have e3 : i - xs0.length = (i - xs0.length - 1) + 1 := by omega
      have e4 : i + 1 - (xs0.length + (0 + 1)) = (i - xs0.length - 1) + 1 := by omega
      simp only [List.length_append, List.length_cons] at hi
      refine Option.some.inj ?_
      rw [← List.getElem?_eq_getElem (by simp; omega), ← List.getElem?_eq_getElem (by simp; omega), e3, e4]
      simp

theorem toList_mk (l : List UInt8) : (⟨l.toArray⟩ : ByteArray).toList = l := by rw [Lib.toList_data]
theorem str_same2 (z y : List UInt8) : (z ++ y == ((⟨z.toArray⟩ : ByteArray) ++ ⟨y.toArray⟩).toList) = true := by
  have e : ((⟨z.toArray⟩ : ByteArray) ++ ⟨y.toArray⟩) = ⟨(z ++ y).toArray⟩ := by
    apply ByteArray.ext
    simp
  rw [e, toList_mk]
  simp
theorem str_same0 (y : List UInt8) : (y == ((⟨#[]⟩ : ByteArray) ++ ⟨y.toArray⟩).toList) = true := str_same2 [] y

theorem both_at' (a b : RegD) (ha : a.lines ≠ []) (hb : b.lines ≠ []) (D : RegD) (hD : D = bothD a b) (i : Nat) (hi : i < D.lines.length) :
    ((a.whole || b.whole) = true → (∀ (h : i < a.lines.length), D.lines[i] = a.lines[i]) ∧ (a.lines.length ≤ i → ∃ h : i - a.lines.length < b.lines.length, D.lines[i] = b.lines[i - a.lines.length])) ∧
    ((a.whole || b.whole) = false → (∀ (h : i + 1 < a.lines.length), D.lines[i] = a.lines[i]) ∧ (i + 1 = a.lines.length → ∃ (h : i < a.lines.length) (h2 : 0 < b.lines.length), D.lines[i] = a.lines[i] ++ b.lines[0]) ∧
      (a.lines.length ≤ i → ∃ h : i + 1 - a.lines.length < b.lines.length, D.lines[i] = b.lines[i + 1 - a.lines.length])) := by
  subst hD
  exact both_at a b ha hb i hi

set_option maxRecDepth 100000 in
set_option maxHeartbeats 4000000 in
theorem add_law (nm : Int) (n0 : 0 ≤ nm) (n1 : nm ≤ 255) (va vb : Value) (a b : RegD) (w : World) (hxa : RegAt w va a) (hxb : RegAt w vb b) (hal : a.lines.length ≤ 8796093021952) (hay : ∀ y ∈ a.lines, y.length ≤ 1000000000000000) (has : sizeR a ≤ 2000000)
    (hbl : b.lines.length ≤ 8796093021952) (hby : ∀ y ∈ b.lines, y.length ≤ 1000000000000000) (hbs : sizeR b ≤ 2000000) :
    Calls Try.prog 3 #[.int .u8 nm, va, vb] w fun e w' => e = .returned (.bool true) ∧ Below w.heap.size w w' := by
  obtain ⟨_, rfl, la, lc, rfl, hca⟩ := hxa
  obtain ⟨_, rfl, lb, ld, rfl, hcb⟩ := hxb
  obtain ⟨W0, hW0, hB0, kA, kB, ha0, hb0⟩ : ∃ W, (w.alloc (Obj.cells #[.slice la a.lines.length lc, .bool a.whole] 24)).alloc (Obj.cells #[.slice lb b.lines.length ld, .bool b.whole] 24) = W ∧ Below w.heap.size w W ∧ W.heap[w.heap.size]? = some (.cells #[.slice la a.lines.length lc, .bool a.whole] 24 (0, 0)) ∧ W.heap[w.heap.size + 1]? = some (.cells #[.slice lb b.lines.length ld, .bool b.whole] 24 (0, 0)) ∧
      StrsAt W (.slice la a.lines.length lc) a.lines ∧ StrsAt W (.slice lb b.lines.length ld) b.lines :=
    ⟨_, rfl, below_two _ _ _, heap_old (heap_alloc_new _ _) _, heap_new2 _ _ _ _, StrsAt.below ⟨la, lc, rfl, hca⟩ (below_two _ _ _), StrsAt.below ⟨lb, ld, rfl, hcb⟩ (below_two _ _ _)⟩
  have HW0 := Lib.hid hW0
  have HB0 := Lib.hid hB0
  have HAY := Lib.hid hay
  have HBY := Lib.hid hby
  have a0 := cell_of kA 0 (v := .slice la a.lines.length lc) rfl
  have a1 := cell_of kA 1 (v := .bool a.whole) rfl
  have b0 := cell_of kB 0 (v := .slice lb b.lines.length ld) rfl
  have b1 := cell_of kB 1 (v := .bool b.whole) rfl
  have hZ : W0.heap.size = w.heap.size + 1 + 1 := by rw [← hW0]; simp
  clear hca hcb hW0 hB0 hay hby
  have HZ := Lib.hid hZ
  clear hZ
  go_enter Try.func3, Try.ntmps3
  cases hh : heavyO [⟨0, 0, a⟩, ⟨0, 0, b⟩]
  · have Hh := Lib.hid hh
    clear hh
    by_cases hna : a.lines = []
    · have hza : ((a.lines.length : Int) == 0) = true := by simpa using hna
      clear hna
      go_wp2_with (first
          | (go_at_call 9
             rw [HW0.out]
             obtain ⟨W1, hW1, hB1, kA1, kB1, ha1, hb1, ho⟩ : ∃ W, W0.alloc (Obj.cells #[.int .u8 0, .int .u8 0, .slice la a.lines.length lc, .bool a.whole, .int .u8 0, .int .u8 0, .slice lb b.lines.length ld, .bool b.whole] 27) = W ∧ Hid (Below w.heap.size w W) ∧ W.heap[w.heap.size]? = some (.cells #[.slice la a.lines.length lc, .bool a.whole] 24 (0, 0)) ∧ W.heap[w.heap.size + 1]? = some (.cells #[.slice lb b.lines.length ld, .bool b.whole] 24 (0, 0)) ∧ StrsAt W (.slice la a.lines.length lc) a.lines ∧ StrsAt W (.slice lb b.lines.length ld) b.lines ∧ OpsAt W (some ⟨w.heap.size + 1 + 1, 0, none⟩) [⟨0, 0, a⟩, ⟨0, 0, b⟩] :=
               have hb := (Below.refl W0.heap.size W0).alloc (Nat.le_refl _) _
               ⟨_, rfl, Lib.hid (HB0.out.trans (hb.mono HB0.out.size)), keep_blk kA hb, keep_blk kB hb, ha0.below hb, hb0.below hb, op_two ha0 hb0 HZ.out⟩
             rw [hW1]
             refine (heavy_any _ 2 [⟨0, 0, a⟩, ⟨0, 0, b⟩] W1 ho (by simp) (by simp; exact ⟨hal, hbl⟩) (by simp; exact ⟨HAY.out, HBY.out⟩)).mono ?_
             rw [Hh.out]
             rintro e w3 ⟨rfl, rfl⟩
             have a2 := cell_of kA1 0 (v := .slice la a.lines.length lc) rfl
             have b2 := cell_of kB1 0 (v := .slice lb b.lines.length ld) rfl
             clear hW1 kA kB ha0 hb0 ho)
          | (go_at_call 10; refine (known_any _).mono ?_; rintro e w1 ⟨rfl, hq⟩
             have kA2 := keep_blk kA1 hq
             have kB2 := keep_blk kB1 hq
             have ha2 := ha1.below hq
             have hb2 := hb1.below hq
             have hB2 := hB1.out.trans (hq.mono hB1.out.size)
             clear kA1 kB1 ha1 hb1 hq a2 b2))
      go_ret
      exact ⟨rfl, hB2⟩
    · by_cases hnb : b.lines = []
      · have hza : ((a.lines.length : Int) == 0) = false := by simpa using hna
        have hzb : ((b.lines.length : Int) == 0) = true := by simpa using hnb
        clear hna hnb
        go_wp2_with (first
          | (go_at_call 9
             rw [HW0.out]
             obtain ⟨W1, hW1, hB1, kA1, kB1, ha1, hb1, ho⟩ : ∃ W, W0.alloc (Obj.cells #[.int .u8 0, .int .u8 0, .slice la a.lines.length lc, .bool a.whole, .int .u8 0, .int .u8 0, .slice lb b.lines.length ld, .bool b.whole] 27) = W ∧ Hid (Below w.heap.size w W) ∧ W.heap[w.heap.size]? = some (.cells #[.slice la a.lines.length lc, .bool a.whole] 24 (0, 0)) ∧ W.heap[w.heap.size + 1]? = some (.cells #[.slice lb b.lines.length ld, .bool b.whole] 24 (0, 0)) ∧ StrsAt W (.slice la a.lines.length lc) a.lines ∧ StrsAt W (.slice lb b.lines.length ld) b.lines ∧ OpsAt W (some ⟨w.heap.size + 1 + 1, 0, none⟩) [⟨0, 0, a⟩, ⟨0, 0, b⟩] :=
               have hb := (Below.refl W0.heap.size W0).alloc (Nat.le_refl _) _
               ⟨_, rfl, Lib.hid (HB0.out.trans (hb.mono HB0.out.size)), keep_blk kA hb, keep_blk kB hb, ha0.below hb, hb0.below hb, op_two ha0 hb0 HZ.out⟩
             rw [hW1]
             refine (heavy_any _ 2 [⟨0, 0, a⟩, ⟨0, 0, b⟩] W1 ho (by simp) (by simp; exact ⟨hal, hbl⟩) (by simp; exact ⟨HAY.out, HBY.out⟩)).mono ?_
             rw [Hh.out]
             rintro e w3 ⟨rfl, rfl⟩
             have a2 := cell_of kA1 0 (v := .slice la a.lines.length lc) rfl
             have b2 := cell_of kB1 0 (v := .slice lb b.lines.length ld) rfl
             clear hW1 kA kB ha0 hb0 ho)
          | (go_at_call 10; refine (known_any _).mono ?_; rintro e w1 ⟨rfl, hq⟩
             have kA2 := keep_blk kA1 hq
             have kB2 := keep_blk kB1 hq
             have ha2 := ha1.below hq
             have hb2 := hb1.below hq
             have hB2 := hB1.out.trans (hq.mono hB1.out.size)
             clear kA1 kB1 ha1 hb1 hq a2 b2))
        go_ret
        exact ⟨rfl, hB2⟩
      · have hza : ((a.lines.length : Int) == 0) = false := by simpa using hna
        have hzb : ((b.lines.length : Int) == 0) = false := by simpa using hnb
        have hcases := add_two nm n0 n1 a b hna hnb
        have HNA := Lib.hid hna
        have HNB := Lib.hid hnb
        have hbd : boundM (yankM (fun _ => none) (97 + nm % 26) a).2 := yank_bound (fun c r h => by cases h) has
        have Hsm := Lib.hid (letter2 nm n0 n1)
        clear hna hnb
        obtain ⟨Y1, hY1⟩ : ∃ Y, yankM (fun _ => none) (97 + nm % 26) a = Y := ⟨_, rfl⟩
        rw [hY1] at hcases hbd
        obtain ⟨E1, M1⟩ := Y1
        simp only at hcases hbd
        obtain ⟨Y2, hY2⟩ : ∃ Y, yankM M1 (97 + nm % 26 - 32) b = Y := ⟨_, rfl⟩
        rw [hY2] at hcases
        obtain ⟨E2, M2⟩ := Y2
        simp only at hcases
        have HY1 := Lib.hid hY1
        have HY2 := Lib.hid hY2
        have HBD := Lib.hid hbd
        clear hY1 hY2 hbd
        rcases hcases with rfl | ⟨rfl, rfl | ⟨rfl, hget⟩⟩
        · go_wp2_with (first
          | (go_at_call 9
             rw [HW0.out]
             obtain ⟨W1, hW1, hB1, kA1, kB1, ha1, hb1, ho⟩ : ∃ W, W0.alloc (Obj.cells #[.int .u8 0, .int .u8 0, .slice la a.lines.length lc, .bool a.whole, .int .u8 0, .int .u8 0, .slice lb b.lines.length ld, .bool b.whole] 27) = W ∧ Hid (Below w.heap.size w W) ∧ W.heap[w.heap.size]? = some (.cells #[.slice la a.lines.length lc, .bool a.whole] 24 (0, 0)) ∧ W.heap[w.heap.size + 1]? = some (.cells #[.slice lb b.lines.length ld, .bool b.whole] 24 (0, 0)) ∧ StrsAt W (.slice la a.lines.length lc) a.lines ∧ StrsAt W (.slice lb b.lines.length ld) b.lines ∧ OpsAt W (some ⟨w.heap.size + 1 + 1, 0, none⟩) [⟨0, 0, a⟩, ⟨0, 0, b⟩] :=
               have hb := (Below.refl W0.heap.size W0).alloc (Nat.le_refl _) _
               ⟨_, rfl, Lib.hid (HB0.out.trans (hb.mono HB0.out.size)), keep_blk kA hb, keep_blk kB hb, ha0.below hb, hb0.below hb, op_two ha0 hb0 HZ.out⟩
             rw [hW1]
             refine (heavy_any _ 2 [⟨0, 0, a⟩, ⟨0, 0, b⟩] W1 ho (by simp) (by simp; exact ⟨hal, hbl⟩) (by simp; exact ⟨HAY.out, HBY.out⟩)).mono ?_
             rw [Hh.out]
             rintro e w3 ⟨rfl, rfl⟩
             have a2 := cell_of kA1 0 (v := .slice la a.lines.length lc) rfl
             have b2 := cell_of kB1 0 (v := .slice lb b.lines.length ld) rfl
             clear hW1 kA kB ha0 hb0 ho)
          | (go_at_call 10; refine (known_any _).mono ?_; rintro e w1 ⟨rfl, hq⟩
             have kA2 := keep_blk kA1 hq
             have kB2 := keep_blk kB1 hq
             have ha2 := ha1.below hq
             have hb2 := hb1.below hq
             have hB2 := hB1.out.trans (hq.mono hB1.out.size)
             clear kA1 kB1 ha1 hb1 hq a2 b2)
          | (go_at_call 11
             refine (New_any w1).mono ?_
             rintro e w2 ⟨rfl, hR, hB, hz⟩
             have kA3 := keep_blk kA2 hB
             have kB3 := keep_blk kB2 hB
             have ha3 := ha2.below hB
             have hb3 := hb2.below hB
             have a3 := cell_of kA3 0 (v := .slice la a.lines.length lc) rfl
             have a4 := cell_of kA3 1 (v := .bool a.whole) rfl
             have hlt := heap_lt kB2
             have hws := hB2.size
             have hB3 := hB2.trans (hB.mono hB2.size)
             clear kA2 kB2 ha2 hb2 hB2 hB)
          | (go_at_call 12
             refine (Yank_any _ _ 0 _ _ (97 + nm % 26) (by omega) (by omega) _ a _ hR ⟨_, rfl, ha3⟩ (by omega) hal (fun r h _ => absurd Hsm.out h)).mono ?_
             rw [HY1.out]
             rintro e w4 ⟨n4, V4, rfl, hR4, hn4, hU4⟩
             have kA5 := hU4.heap kA3 (by omega)
             have kB5 := hU4.heap kB3 (by omega)
             have ha5 := (show RegAt w2 (.agg #[.slice la a.lines.length lc, .bool a.whole]) a from ⟨_, rfl, ha3⟩).upd hU4 hR.nocell
             have hb5 := (show RegAt w2 (.agg #[.slice lb b.lines.length ld, .bool b.whole]) b from ⟨_, rfl, hb3⟩).upd hU4 hR.nocell
             have b3 := cell_of kB5 0 (v := .slice lb b.lines.length ld) rfl
             have b4 := cell_of kB5 1 (v := .bool b.whole) rfl
             have hB5 := hB3.trans (hU4.below hB3.size (fun k hk e => by omega))
             clear hR kA3 kB3 ha3 hb3 a3 a4 hB3 hU4)
          | (go_at_call 12
             refine (Yank_any _ _ n4 _ _ (97 + nm % 26 - 32) (by omega) (by omega) _ b _ hR4 hb5 (by omega) hbl (fun r _ h => ⟨by have := HBD.out _ _ h; omega, by omega⟩)).mono ?_
             rw [HY2.out]
             rintro e w6 ⟨n6, V6, rfl, hR6, hn6, hU6⟩
             have kA7 := hU6.heap kA5 (by omega)
             have kB7 := hU6.heap kB5 (by omega)
             have ha7 := ha5.upd hU6 hR4.nocell
             have hb7 := hb5.upd hU6 hR4.nocell
             have hB7 := hB5.trans (hU6.below hB5.size (fun k hk e => by omega))
             clear hR4 kA5 kB5 ha5 hb5 b3 b4 hB5 hU6))
          go_ret
          exact ⟨rfl, hB7⟩
        · go_wp2_with (first
          | (go_at_call 9
             rw [HW0.out]
             obtain ⟨W1, hW1, hB1, kA1, kB1, ha1, hb1, ho⟩ : ∃ W, W0.alloc (Obj.cells #[.int .u8 0, .int .u8 0, .slice la a.lines.length lc, .bool a.whole, .int .u8 0, .int .u8 0, .slice lb b.lines.length ld, .bool b.whole] 27) = W ∧ Hid (Below w.heap.size w W) ∧ W.heap[w.heap.size]? = some (.cells #[.slice la a.lines.length lc, .bool a.whole] 24 (0, 0)) ∧ W.heap[w.heap.size + 1]? = some (.cells #[.slice lb b.lines.length ld, .bool b.whole] 24 (0, 0)) ∧ StrsAt W (.slice la a.lines.length lc) a.lines ∧ StrsAt W (.slice lb b.lines.length ld) b.lines ∧ OpsAt W (some ⟨w.heap.size + 1 + 1, 0, none⟩) [⟨0, 0, a⟩, ⟨0, 0, b⟩] :=
               have hb := (Below.refl W0.heap.size W0).alloc (Nat.le_refl _) _
               ⟨_, rfl, Lib.hid (HB0.out.trans (hb.mono HB0.out.size)), keep_blk kA hb, keep_blk kB hb, ha0.below hb, hb0.below hb, op_two ha0 hb0 HZ.out⟩
             rw [hW1]
             refine (heavy_any _ 2 [⟨0, 0, a⟩, ⟨0, 0, b⟩] W1 ho (by simp) (by simp; exact ⟨hal, hbl⟩) (by simp; exact ⟨HAY.out, HBY.out⟩)).mono ?_
             rw [Hh.out]
             rintro e w3 ⟨rfl, rfl⟩
             have a2 := cell_of kA1 0 (v := .slice la a.lines.length lc) rfl
             have b2 := cell_of kB1 0 (v := .slice lb b.lines.length ld) rfl
             clear hW1 kA kB ha0 hb0 ho)
          | (go_at_call 10; refine (known_any _).mono ?_; rintro e w1 ⟨rfl, hq⟩
             have kA2 := keep_blk kA1 hq
             have kB2 := keep_blk kB1 hq
             have ha2 := ha1.below hq
             have hb2 := hb1.below hq
             have hB2 := hB1.out.trans (hq.mono hB1.out.size)
             clear kA1 kB1 ha1 hb1 hq a2 b2)
          | (go_at_call 11
             refine (New_any w1).mono ?_
             rintro e w2 ⟨rfl, hR, hB, hz⟩
             have kA3 := keep_blk kA2 hB
             have kB3 := keep_blk kB2 hB
             have ha3 := ha2.below hB
             have hb3 := hb2.below hB
             have a3 := cell_of kA3 0 (v := .slice la a.lines.length lc) rfl
             have a4 := cell_of kA3 1 (v := .bool a.whole) rfl
             have hlt := heap_lt kB2
             have hws := hB2.size
             have hB3 := hB2.trans (hB.mono hB2.size)
             clear kA2 kB2 ha2 hb2 hB2 hB)
          | (go_at_call 12
             refine (Yank_any _ _ 0 _ _ (97 + nm % 26) (by omega) (by omega) _ a _ hR ⟨_, rfl, ha3⟩ (by omega) hal (fun r h _ => absurd Hsm.out h)).mono ?_
             rw [HY1.out]
             rintro e w4 ⟨n4, V4, rfl, hR4, hn4, hU4⟩
             have kA5 := hU4.heap kA3 (by omega)
             have kB5 := hU4.heap kB3 (by omega)
             have ha5 := (show RegAt w2 (.agg #[.slice la a.lines.length lc, .bool a.whole]) a from ⟨_, rfl, ha3⟩).upd hU4 hR.nocell
             have hb5 := (show RegAt w2 (.agg #[.slice lb b.lines.length ld, .bool b.whole]) b from ⟨_, rfl, hb3⟩).upd hU4 hR.nocell
             have b3 := cell_of kB5 0 (v := .slice lb b.lines.length ld) rfl
             have b4 := cell_of kB5 1 (v := .bool b.whole) rfl
             have hB5 := hB3.trans (hU4.below hB3.size (fun k hk e => by omega))
             clear hR kA3 kB3 ha3 hb3 a3 a4 hB3 hU4)
          | (go_at_call 12
             refine (Yank_any _ _ n4 _ _ (97 + nm % 26 - 32) (by omega) (by omega) _ b _ hR4 hb5 (by omega) hbl (fun r _ h => ⟨by have := HBD.out _ _ h; omega, by omega⟩)).mono ?_
             rw [HY2.out]
             rintro e w6 ⟨n6, V6, rfl, hR6, hn6, hU6⟩
             have kA7 := hU6.heap kA5 (by omega)
             have kB7 := hU6.heap kB5 (by omega)
             have ha7 := ha5.upd hU6 hR4.nocell
             have hb7 := hb5.upd hU6 hR4.nocell
             have hB7 := hB5.trans (hU6.below hB5.size (fun k hk e => by omega))
             clear hR4 kA5 kB5 ha5 hb5 b3 b4 hB5 hU6))
          go_ret
          exact ⟨rfl, hB7⟩
        · have HG := Lib.hid hget
          clear hget
          have hbl2 := both_len a b HNA.out HNB.out
          have HG2 := HG.out
          clear HG
          obtain ⟨D, hD⟩ : ∃ D, D = bothD a b := ⟨_, rfl⟩
          have hat0 := both_at' a b HNA.out HNB.out D hD
          rw [← hD] at hbl2 HG2
          clear hD
          obtain ⟨dl, dw⟩ := D
          obtain ⟨hbw, hlen⟩ := hbl2
          simp only at hbw hlen hat0
          have HG := Lib.hid HG2
          have hat := Lib.hid hat0
          have hap : 0 < a.lines.length := List.length_pos_iff.2 HNA.out
          have hbp : 0 < b.lines.length := List.length_pos_iff.2 HNB.out
          clear HG2 hat0
          have hw3 : (a.whole = true) ∨ (a.whole = false ∧ b.whole = true) ∨ (a.whole = false ∧ b.whole = false) := by cases a.whole <;> cases b.whole <;> simp
          rcases hw3 with hwa | ⟨hwa, hwb⟩ | ⟨hwa, hwb⟩
          · have HWA := Lib.hid hwa
            have hor : (a.whole || b.whole) = true := by rw [hwa]; rfl
            rw [hor] at hlen hbw
            subst hbw
            have hDl : (dl.length : Int) = (a.lines.length : Int) + (b.lines.length : Int) := by have := hlen; simp at this; omega
            have hDl2 : ((dl.length : Int) == (a.lines.length : Int) + (b.lines.length : Int)) = true := by simpa using hDl
            have hDl3 : ((dl.length : Int) != (a.lines.length : Int) + (b.lines.length : Int)) = false := by simpa using hDl
            have Hat := Lib.hid (fun i hi => (hat.out i hi).1 hor)
            clear hlen hat hor hwa
            go_wp2_with (first
          | (go_at_call 9
             rw [HW0.out]
             obtain ⟨W1, hW1, hB1, kA1, kB1, ha1, hb1, ho⟩ : ∃ W, W0.alloc (Obj.cells #[.int .u8 0, .int .u8 0, .slice la a.lines.length lc, .bool a.whole, .int .u8 0, .int .u8 0, .slice lb b.lines.length ld, .bool b.whole] 27) = W ∧ Hid (Below w.heap.size w W) ∧ W.heap[w.heap.size]? = some (.cells #[.slice la a.lines.length lc, .bool a.whole] 24 (0, 0)) ∧ W.heap[w.heap.size + 1]? = some (.cells #[.slice lb b.lines.length ld, .bool b.whole] 24 (0, 0)) ∧ StrsAt W (.slice la a.lines.length lc) a.lines ∧ StrsAt W (.slice lb b.lines.length ld) b.lines ∧ OpsAt W (some ⟨w.heap.size + 1 + 1, 0, none⟩) [⟨0, 0, a⟩, ⟨0, 0, b⟩] :=
               have hb := (Below.refl W0.heap.size W0).alloc (Nat.le_refl _) _
               ⟨_, rfl, Lib.hid (HB0.out.trans (hb.mono HB0.out.size)), keep_blk kA hb, keep_blk kB hb, ha0.below hb, hb0.below hb, op_two ha0 hb0 HZ.out⟩
             rw [hW1]
             refine (heavy_any _ 2 [⟨0, 0, a⟩, ⟨0, 0, b⟩] W1 ho (by simp) (by simp; exact ⟨hal, hbl⟩) (by simp; exact ⟨HAY.out, HBY.out⟩)).mono ?_
             rw [Hh.out]
             rintro e w3 ⟨rfl, rfl⟩
             have a2 := cell_of kA1 0 (v := .slice la a.lines.length lc) rfl
             have b2 := cell_of kB1 0 (v := .slice lb b.lines.length ld) rfl
             clear hW1 kA kB ha0 hb0 ho)
          | (go_at_call 10; refine (known_any _).mono ?_; rintro e w1 ⟨rfl, hq⟩
             have kA2 := keep_blk kA1 hq
             have kB2 := keep_blk kB1 hq
             have ha2 := ha1.below hq
             have hb2 := hb1.below hq
             have hB2 := hB1.out.trans (hq.mono hB1.out.size)
             clear kA1 kB1 ha1 hb1 hq a2 b2)
          | (go_at_call 11
             refine (New_any w1).mono ?_
             rintro e w2 ⟨rfl, hR, hB, hz⟩
             have kA3 := keep_blk kA2 hB
             have kB3 := keep_blk kB2 hB
             have ha3 := ha2.below hB
             have hb3 := hb2.below hB
             have a3 := cell_of kA3 0 (v := .slice la a.lines.length lc) rfl
             have a4 := cell_of kA3 1 (v := .bool a.whole) rfl
             have hlt := heap_lt kB2
             have hws := hB2.size
             have hB3 := hB2.trans (hB.mono hB2.size)
             clear kA2 kB2 ha2 hb2 hB2 hB)
          | (go_at_call 12
             refine (Yank_any _ _ 0 _ _ (97 + nm % 26) (by omega) (by omega) _ a _ hR ⟨_, rfl, ha3⟩ (by omega) hal (fun r h _ => absurd Hsm.out h)).mono ?_
             rw [HY1.out]
             rintro e w4 ⟨n4, V4, rfl, hR4, hn4, hU4⟩
             have kA5 := hU4.heap kA3 (by omega)
             have kB5 := hU4.heap kB3 (by omega)
             have ha5 := (show RegAt w2 (.agg #[.slice la a.lines.length lc, .bool a.whole]) a from ⟨_, rfl, ha3⟩).upd hU4 hR.nocell
             have hb5 := (show RegAt w2 (.agg #[.slice lb b.lines.length ld, .bool b.whole]) b from ⟨_, rfl, hb3⟩).upd hU4 hR.nocell
             have b3 := cell_of kB5 0 (v := .slice lb b.lines.length ld) rfl
             have b4 := cell_of kB5 1 (v := .bool b.whole) rfl
             have hB5 := hB3.trans (hU4.below hB3.size (fun k hk e => by omega))
             clear hR kA3 kB3 ha3 hb3 a3 a4 hB3 hU4)
          | (go_at_call 12
             refine (Yank_any _ _ n4 _ _ (97 + nm % 26 - 32) (by omega) (by omega) _ b _ hR4 hb5 (by omega) hbl (fun r _ h => ⟨by have := HBD.out _ _ h; omega, by omega⟩)).mono ?_
             rw [HY2.out]
             rintro e w6 ⟨n6, V6, rfl, hR6, hn6, hU6⟩
             have kA7 := hU6.heap kA5 (by omega)
             have kB7 := hU6.heap kB5 (by omega)
             have ha7 := ha5.upd hU6 hR4.nocell
             have hb7 := hb5.upd hU6 hR4.nocell
             have hB7 := hB5.trans (hU6.below hB5.size (fun k hk e => by omega))
             clear hR4 kA5 kB5 ha5 hb5 b3 b4 hB5 hU6)
            | (go_at_call 13
               refine (Get_any _ _ n6 _ _ (97 + nm % 26) (by omega) (by omega) _ hR6).mono ?_
               rw [HG.out]
               rintro e w8 ⟨u, rfl, ⟨_, rfl, ga, gc, rfl, hgx⟩, hb8⟩
               have hB9 := hb8.trans (((Below.refl w8.heap.size w8).alloc (Nat.le_refl _) (Obj.cells #[.slice ga dl.length gc, .bool true] 24)).mono hb8.size)
               have kA9 := keep_blk kA7 hB9
               have kB9 := keep_blk kB7 hB9
               obtain ⟨_, eA, HA9⟩ := ha7.below hB9
               obtain ⟨_, eB, HB9⟩ := hb7.below hB9
               cases eA
               cases eB
               have HA9 := Lib.hid HA9
               have HB9 := Lib.hid HB9
               have HX9 := Lib.hid (StrsAt.below (v := .slice ga dl.length gc) ⟨ga, gc, rfl, hgx⟩ ((Below.refl w8.heap.size w8).alloc (Nat.le_refl _) (Obj.cells #[.slice ga dl.length gc, .bool true] 24)))
               have kX9 := heap_alloc_new w8 (Obj.cells #[.slice ga dl.length gc, .bool true] 24)
               have hB10 := Lib.hid (hB7.trans (hB9.mono hB7.size))
               have p0 := cell_of kA9 0 (v := .slice la a.lines.length lc) rfl
               have p1 := cell_of kA9 1 (v := .bool a.whole) rfl
               have q0 := cell_of kB9 0 (v := .slice lb b.lines.length ld) rfl
               have q1 := cell_of kB9 1 (v := .bool b.whole) rfl
               have x0 := cell_of kX9 0 (v := .slice ga dl.length gc) rfl
               have x1 := cell_of kX9 1 (v := .bool true) rfl
               have hwa := HWA.out
               clear hR6 kA7 kB7 ha7 hb7 hB7 hb8 hB9 hgx kA9 kB9 kX9))
            generalize w8.alloc (Obj.cells #[.slice ga dl.length gc, .bool true] 24) = W9 at *
            go_loop [15, 16, 17] (fun iv wv kv => ∃ i : Nat, i ≤ dl.length ∧ iv = .int .i64 i) (fun iv wv kv => dl.length - (intOf iv).toNat)
            case atStart => exact ⟨0, by omega, rfl⟩
            case round =>
              obtain ⟨i, hi, rfl⟩ := hrel
              by_cases hlt : i < dl.length
              · have hxy := Hat.out i hlt
                obtain ⟨_, _, eX, hcx⟩ := HX9.out
                cases eX
                obtain ⟨_, _, eX, hcA⟩ := HA9.out
                cases eX
                obtain ⟨_, _, eX, hcB⟩ := HB9.out
                cases eX
                obtain ⟨bx, ox, rfl, ex⟩ := hcx i hlt
                by_cases hin : i < a.lines.length
                · obtain ⟨b1, o1, rfl, e1⟩ := hcA i hin
                  rw [hxy.1 hin] at ex
                  clear hcx hcA hcB hxy
                  simp only [strV] at ex e1
                  generalize a.lines[i] = y at *
                  have hneg : ¬ (0 : Int) ≤ (i : Int) - (a.lines.length : Int) := by omega
                  go_wp2
                  go_round
                  case rel => exact ⟨i + 1, by omega, by go_num⟩
                  case measure => simp [intOf]; omega
                · obtain ⟨hk, hxe⟩ := hxy.2 (by omega)
                  obtain ⟨b1, o1, rfl, e1⟩ := hcB (i - a.lines.length) hk
                  rw [hxe] at ex
                  clear hcx hcA hcB hxy hxe
                  simp only [strV] at ex e1
                  have hyl : b.lines[i - a.lines.length].length ≤ 1000000000000000 := HBY.out _ (List.getElem_mem hk)
                  have hsub : (i : Int) - (a.lines.length : Int) = ((i - a.lines.length : Nat) : Int) := by omega
                  generalize b.lines[i - a.lines.length] = y at *
                  generalize i - a.lines.length = k at *
                  have hyy := str_same0 y
                  go_wp2
                  go_round
                  case rel => exact ⟨i + 1, by omega, by go_num⟩
                  case measure => simp [intOf]; omega
              · obtain rfl : i = dl.length := by omega
                go_wp2
                go_ret
                exact ⟨rfl, hB10.out⟩
          · have HWA := Lib.hid hwa
            have HWB := Lib.hid hwb
            have hor : (a.whole || b.whole) = true := by rw [hwa, hwb]; rfl
            rw [hor] at hlen hbw
            subst hbw
            have hDl : (dl.length : Int) = (a.lines.length : Int) + (b.lines.length : Int) := by have := hlen; simp at this; omega
            have hDl2 : ((dl.length : Int) == (a.lines.length : Int) + (b.lines.length : Int)) = true := by simpa using hDl
            have hDl3 : ((dl.length : Int) != (a.lines.length : Int) + (b.lines.length : Int)) = false := by simpa using hDl
            have Hat := Lib.hid (fun i hi => (hat.out i hi).1 hor)
            clear hlen hat hor hwa hwb
            go_wp2_with (first
          | (go_at_call 9
             rw [HW0.out]
             obtain ⟨W1, hW1, hB1, kA1, kB1, ha1, hb1, ho⟩ : ∃ W, W0.alloc (Obj.cells #[.int .u8 0, .int .u8 0, .slice la a.lines.length lc, .bool a.whole, .int .u8 0, .int .u8 0, .slice lb b.lines.length ld, .bool b.whole] 27) = W ∧ Hid (Below w.heap.size w W) ∧ W.heap[w.heap.size]? = some (.cells #[.slice la a.lines.length lc, .bool a.whole] 24 (0, 0)) ∧ W.heap[w.heap.size + 1]? = some (.cells #[.slice lb b.lines.length ld, .bool b.whole] 24 (0, 0)) ∧ StrsAt W (.slice la a.lines.length lc) a.lines ∧ StrsAt W (.slice lb b.lines.length ld) b.lines ∧ OpsAt W (some ⟨w.heap.size + 1 + 1, 0, none⟩) [⟨0, 0, a⟩, ⟨0, 0, b⟩] :=
               have hb := (Below.refl W0.heap.size W0).alloc (Nat.le_refl _) _
               ⟨_, rfl, Lib.hid (HB0.out.trans (hb.mono HB0.out.size)), keep_blk kA hb, keep_blk kB hb, ha0.below hb, hb0.below hb, op_two ha0 hb0 HZ.out⟩
             rw [hW1]
             refine (heavy_any _ 2 [⟨0, 0, a⟩, ⟨0, 0, b⟩] W1 ho (by simp) (by simp; exact ⟨hal, hbl⟩) (by simp; exact ⟨HAY.out, HBY.out⟩)).mono ?_
             rw [Hh.out]
             rintro e w3 ⟨rfl, rfl⟩
             have a2 := cell_of kA1 0 (v := .slice la a.lines.length lc) rfl
             have b2 := cell_of kB1 0 (v := .slice lb b.lines.length ld) rfl
             clear hW1 kA kB ha0 hb0 ho)
          | (go_at_call 10; refine (known_any _).mono ?_; rintro e w1 ⟨rfl, hq⟩
             have kA2 := keep_blk kA1 hq
             have kB2 := keep_blk kB1 hq
             have ha2 := ha1.below hq
             have hb2 := hb1.below hq
             have hB2 := hB1.out.trans (hq.mono hB1.out.size)
             clear kA1 kB1 ha1 hb1 hq a2 b2)
          | (go_at_call 11
             refine (New_any w1).mono ?_
             rintro e w2 ⟨rfl, hR, hB, hz⟩
             have kA3 := keep_blk kA2 hB
             have kB3 := keep_blk kB2 hB
             have ha3 := ha2.below hB
             have hb3 := hb2.below hB
             have a3 := cell_of kA3 0 (v := .slice la a.lines.length lc) rfl
             have a4 := cell_of kA3 1 (v := .bool a.whole) rfl
             have hlt := heap_lt kB2
             have hws := hB2.size
             have hB3 := hB2.trans (hB.mono hB2.size)
             clear kA2 kB2 ha2 hb2 hB2 hB)
          | (go_at_call 12
             refine (Yank_any _ _ 0 _ _ (97 + nm % 26) (by omega) (by omega) _ a _ hR ⟨_, rfl, ha3⟩ (by omega) hal (fun r h _ => absurd Hsm.out h)).mono ?_
             rw [HY1.out]
             rintro e w4 ⟨n4, V4, rfl, hR4, hn4, hU4⟩
             have kA5 := hU4.heap kA3 (by omega)
             have kB5 := hU4.heap kB3 (by omega)
             have ha5 := (show RegAt w2 (.agg #[.slice la a.lines.length lc, .bool a.whole]) a from ⟨_, rfl, ha3⟩).upd hU4 hR.nocell
             have hb5 := (show RegAt w2 (.agg #[.slice lb b.lines.length ld, .bool b.whole]) b from ⟨_, rfl, hb3⟩).upd hU4 hR.nocell
             have b3 := cell_of kB5 0 (v := .slice lb b.lines.length ld) rfl
             have b4 := cell_of kB5 1 (v := .bool b.whole) rfl
             have hB5 := hB3.trans (hU4.below hB3.size (fun k hk e => by omega))
             clear hR kA3 kB3 ha3 hb3 a3 a4 hB3 hU4)
          | (go_at_call 12
             refine (Yank_any _ _ n4 _ _ (97 + nm % 26 - 32) (by omega) (by omega) _ b _ hR4 hb5 (by omega) hbl (fun r _ h => ⟨by have := HBD.out _ _ h; omega, by omega⟩)).mono ?_
             rw [HY2.out]
             rintro e w6 ⟨n6, V6, rfl, hR6, hn6, hU6⟩
             have kA7 := hU6.heap kA5 (by omega)
             have kB7 := hU6.heap kB5 (by omega)
             have ha7 := ha5.upd hU6 hR4.nocell
             have hb7 := hb5.upd hU6 hR4.nocell
             have hB7 := hB5.trans (hU6.below hB5.size (fun k hk e => by omega))
             clear hR4 kA5 kB5 ha5 hb5 b3 b4 hB5 hU6)
            | (go_at_call 13
               refine (Get_any _ _ n6 _ _ (97 + nm % 26) (by omega) (by omega) _ hR6).mono ?_
               rw [HG.out]
               rintro e w8 ⟨u, rfl, ⟨_, rfl, ga, gc, rfl, hgx⟩, hb8⟩
               have hB9 := hb8.trans (((Below.refl w8.heap.size w8).alloc (Nat.le_refl _) (Obj.cells #[.slice ga dl.length gc, .bool true] 24)).mono hb8.size)
               have kA9 := keep_blk kA7 hB9
               have kB9 := keep_blk kB7 hB9
               obtain ⟨_, eA, HA9⟩ := ha7.below hB9
               obtain ⟨_, eB, HB9⟩ := hb7.below hB9
               cases eA
               cases eB
               have HA9 := Lib.hid HA9
               have HB9 := Lib.hid HB9
               have HX9 := Lib.hid (StrsAt.below (v := .slice ga dl.length gc) ⟨ga, gc, rfl, hgx⟩ ((Below.refl w8.heap.size w8).alloc (Nat.le_refl _) (Obj.cells #[.slice ga dl.length gc, .bool true] 24)))
               have kX9 := heap_alloc_new w8 (Obj.cells #[.slice ga dl.length gc, .bool true] 24)
               have hB10 := Lib.hid (hB7.trans (hB9.mono hB7.size))
               have p0 := cell_of kA9 0 (v := .slice la a.lines.length lc) rfl
               have p1 := cell_of kA9 1 (v := .bool a.whole) rfl
               have q0 := cell_of kB9 0 (v := .slice lb b.lines.length ld) rfl
               have q1 := cell_of kB9 1 (v := .bool b.whole) rfl
               have x0 := cell_of kX9 0 (v := .slice ga dl.length gc) rfl
               have x1 := cell_of kX9 1 (v := .bool true) rfl
               have hwa := HWA.out
               have hwb := HWB.out
               clear hR6 kA7 kB7 ha7 hb7 hB7 hb8 hB9 hgx kA9 kB9 kX9))
            generalize w8.alloc (Obj.cells #[.slice ga dl.length gc, .bool true] 24) = W9 at *
            go_loop [15, 16, 17] (fun iv wv kv => ∃ i : Nat, i ≤ dl.length ∧ iv = .int .i64 i) (fun iv wv kv => dl.length - (intOf iv).toNat)
            case atStart => exact ⟨0, by omega, rfl⟩
            case round =>
              obtain ⟨i, hi, rfl⟩ := hrel
              by_cases hlt : i < dl.length
              · have hxy := Hat.out i hlt
                obtain ⟨_, _, eX, hcx⟩ := HX9.out
                cases eX
                obtain ⟨_, _, eX, hcA⟩ := HA9.out
                cases eX
                obtain ⟨_, _, eX, hcB⟩ := HB9.out
                cases eX
                obtain ⟨bx, ox, rfl, ex⟩ := hcx i hlt
                by_cases hin : i < a.lines.length
                · obtain ⟨b1, o1, rfl, e1⟩ := hcA i hin
                  rw [hxy.1 hin] at ex
                  clear hcx hcA hcB hxy
                  simp only [strV] at ex e1
                  generalize a.lines[i] = y at *
                  have hneg : ¬ (0 : Int) ≤ (i : Int) - (a.lines.length : Int) := by omega
                  go_wp2
                  go_round
                  case rel => exact ⟨i + 1, by omega, by go_num⟩
                  case measure => simp [intOf]; omega
                · obtain ⟨hk, hxe⟩ := hxy.2 (by omega)
                  obtain ⟨b1, o1, rfl, e1⟩ := hcB (i - a.lines.length) hk
                  rw [hxe] at ex
                  clear hcx hcA hcB hxy hxe
                  simp only [strV] at ex e1
                  have hyl : b.lines[i - a.lines.length].length ≤ 1000000000000000 := HBY.out _ (List.getElem_mem hk)
                  have hsub : (i : Int) - (a.lines.length : Int) = ((i - a.lines.length : Nat) : Int) := by omega
                  generalize b.lines[i - a.lines.length] = y at *
                  generalize i - a.lines.length = k at *
                  have hyy := str_same0 y
                  go_wp2
                  go_round
                  case rel => exact ⟨i + 1, by omega, by go_num⟩
                  case measure => simp [intOf]; omega
              · obtain rfl : i = dl.length := by omega
                go_wp2
                go_ret
                exact ⟨rfl, hB10.out⟩
          · have HWA := Lib.hid hwa
            have HWB := Lib.hid hwb
            have hor : (a.whole || b.whole) = false := by rw [hwa, hwb]; rfl
            rw [hor] at hlen hbw
            subst hbw
            have hDl : (dl.length : Int) = (a.lines.length : Int) + (b.lines.length : Int) - 1 := by have := hlen; simp at this; omega
            have hDl2 : ((dl.length : Int) == (a.lines.length : Int) + (b.lines.length : Int) - 1) = true := by simpa using hDl
            have hDl3 : ((dl.length : Int) != (a.lines.length : Int) + (b.lines.length : Int) - 1) = false := by simpa using hDl
            have Hat := Lib.hid (fun i hi => (hat.out i hi).2 hor)
            clear hlen hat hor hwa hwb
            go_wp2_with (first
          | (go_at_call 9
             rw [HW0.out]
             obtain ⟨W1, hW1, hB1, kA1, kB1, ha1, hb1, ho⟩ : ∃ W, W0.alloc (Obj.cells #[.int .u8 0, .int .u8 0, .slice la a.lines.length lc, .bool a.whole, .int .u8 0, .int .u8 0, .slice lb b.lines.length ld, .bool b.whole] 27) = W ∧ Hid (Below w.heap.size w W) ∧ W.heap[w.heap.size]? = some (.cells #[.slice la a.lines.length lc, .bool a.whole] 24 (0, 0)) ∧ W.heap[w.heap.size + 1]? = some (.cells #[.slice lb b.lines.length ld, .bool b.whole] 24 (0, 0)) ∧ StrsAt W (.slice la a.lines.length lc) a.lines ∧ StrsAt W (.slice lb b.lines.length ld) b.lines ∧ OpsAt W (some ⟨w.heap.size + 1 + 1, 0, none⟩) [⟨0, 0, a⟩, ⟨0, 0, b⟩] :=
               have hb := (Below.refl W0.heap.size W0).alloc (Nat.le_refl _) _
               ⟨_, rfl, Lib.hid (HB0.out.trans (hb.mono HB0.out.size)), keep_blk kA hb, keep_blk kB hb, ha0.below hb, hb0.below hb, op_two ha0 hb0 HZ.out⟩
             rw [hW1]
             refine (heavy_any _ 2 [⟨0, 0, a⟩, ⟨0, 0, b⟩] W1 ho (by simp) (by simp; exact ⟨hal, hbl⟩) (by simp; exact ⟨HAY.out, HBY.out⟩)).mono ?_
             rw [Hh.out]
             rintro e w3 ⟨rfl, rfl⟩
             have a2 := cell_of kA1 0 (v := .slice la a.lines.length lc) rfl
             have b2 := cell_of kB1 0 (v := .slice lb b.lines.length ld) rfl
             clear hW1 kA kB ha0 hb0 ho)
          | (go_at_call 10; refine (known_any _).mono ?_; rintro e w1 ⟨rfl, hq⟩
             have kA2 := keep_blk kA1 hq
             have kB2 := keep_blk kB1 hq
             have ha2 := ha1.below hq
             have hb2 := hb1.below hq
             have hB2 := hB1.out.trans (hq.mono hB1.out.size)
             clear kA1 kB1 ha1 hb1 hq a2 b2)
          | (go_at_call 11
             refine (New_any w1).mono ?_
             rintro e w2 ⟨rfl, hR, hB, hz⟩
             have kA3 := keep_blk kA2 hB
             have kB3 := keep_blk kB2 hB
             have ha3 := ha2.below hB
             have hb3 := hb2.below hB
             have a3 := cell_of kA3 0 (v := .slice la a.lines.length lc) rfl
             have a4 := cell_of kA3 1 (v := .bool a.whole) rfl
             have hlt := heap_lt kB2
             have hws := hB2.size
             have hB3 := hB2.trans (hB.mono hB2.size)
             clear kA2 kB2 ha2 hb2 hB2 hB)
          | (go_at_call 12
             refine (Yank_any _ _ 0 _ _ (97 + nm % 26) (by omega) (by omega) _ a _ hR ⟨_, rfl, ha3⟩ (by omega) hal (fun r h _ => absurd Hsm.out h)).mono ?_
             rw [HY1.out]
             rintro e w4 ⟨n4, V4, rfl, hR4, hn4, hU4⟩
             have kA5 := hU4.heap kA3 (by omega)
             have kB5 := hU4.heap kB3 (by omega)
             have ha5 := (show RegAt w2 (.agg #[.slice la a.lines.length lc, .bool a.whole]) a from ⟨_, rfl, ha3⟩).upd hU4 hR.nocell
             have hb5 := (show RegAt w2 (.agg #[.slice lb b.lines.length ld, .bool b.whole]) b from ⟨_, rfl, hb3⟩).upd hU4 hR.nocell
             have b3 := cell_of kB5 0 (v := .slice lb b.lines.length ld) rfl
             have b4 := cell_of kB5 1 (v := .bool b.whole) rfl
             have hB5 := hB3.trans (hU4.below hB3.size (fun k hk e => by omega))
             clear hR kA3 kB3 ha3 hb3 a3 a4 hB3 hU4)
          | (go_at_call 12
             refine (Yank_any _ _ n4 _ _ (97 + nm % 26 - 32) (by omega) (by omega) _ b _ hR4 hb5 (by omega) hbl (fun r _ h => ⟨by have := HBD.out _ _ h; omega, by omega⟩)).mono ?_
             rw [HY2.out]
             rintro e w6 ⟨n6, V6, rfl, hR6, hn6, hU6⟩
             have kA7 := hU6.heap kA5 (by omega)
             have kB7 := hU6.heap kB5 (by omega)
             have ha7 := ha5.upd hU6 hR4.nocell
             have hb7 := hb5.upd hU6 hR4.nocell
             have hB7 := hB5.trans (hU6.below hB5.size (fun k hk e => by omega))
             clear hR4 kA5 kB5 ha5 hb5 b3 b4 hB5 hU6)
            | (go_at_call 13
               refine (Get_any _ _ n6 _ _ (97 + nm % 26) (by omega) (by omega) _ hR6).mono ?_
               rw [HG.out]
               rintro e w8 ⟨u, rfl, ⟨_, rfl, ga, gc, rfl, hgx⟩, hb8⟩
               have hB9 := hb8.trans (((Below.refl w8.heap.size w8).alloc (Nat.le_refl _) (Obj.cells #[.slice ga dl.length gc, .bool false] 24)).mono hb8.size)
               have kA9 := keep_blk kA7 hB9
               have kB9 := keep_blk kB7 hB9
               obtain ⟨_, eA, HA9⟩ := ha7.below hB9
               obtain ⟨_, eB, HB9⟩ := hb7.below hB9
               cases eA
               cases eB
               have HA9 := Lib.hid HA9
               have HB9 := Lib.hid HB9
               have HX9 := Lib.hid (StrsAt.below (v := .slice ga dl.length gc) ⟨ga, gc, rfl, hgx⟩ ((Below.refl w8.heap.size w8).alloc (Nat.le_refl _) (Obj.cells #[.slice ga dl.length gc, .bool false] 24)))
               have kX9 := heap_alloc_new w8 (Obj.cells #[.slice ga dl.length gc, .bool false] 24)
               have hB10 := Lib.hid (hB7.trans (hB9.mono hB7.size))
               have p0 := cell_of kA9 0 (v := .slice la a.lines.length lc) rfl
               have p1 := cell_of kA9 1 (v := .bool a.whole) rfl
               have q0 := cell_of kB9 0 (v := .slice lb b.lines.length ld) rfl
               have q1 := cell_of kB9 1 (v := .bool b.whole) rfl
               have x0 := cell_of kX9 0 (v := .slice ga dl.length gc) rfl
               have x1 := cell_of kX9 1 (v := .bool false) rfl
               have hwa := HWA.out
               have hwb := HWB.out
               clear hR6 kA7 kB7 ha7 hb7 hB7 hb8 hB9 hgx kA9 kB9 kX9))
            generalize w8.alloc (Obj.cells #[.slice ga dl.length gc, .bool false] 24) = W9 at *
            go_loop [15, 16, 17] (fun iv wv kv => ∃ i : Nat, i ≤ dl.length ∧ iv = .int .i64 i) (fun iv wv kv => dl.length - (intOf iv).toNat)
            case atStart => exact ⟨0, by omega, rfl⟩
            case round =>
              obtain ⟨i, hi, rfl⟩ := hrel
              by_cases hlt : i < dl.length
              · have hxy := Hat.out i hlt
                obtain ⟨_, _, eX, hcx⟩ := HX9.out
                cases eX
                obtain ⟨_, _, eX, hcA⟩ := HA9.out
                cases eX
                obtain ⟨_, _, eX, hcB⟩ := HB9.out
                cases eX
                obtain ⟨bx, ox, rfl, ex⟩ := hcx i hlt
                by_cases hin : i + 1 < a.lines.length
                · obtain ⟨b1, o1, rfl, e1⟩ := hcA i (by omega)
                  rw [hxy.1 hin] at ex
                  clear hcx hcA hcB hxy
                  simp only [strV] at ex e1
                  generalize a.lines[i] = y at *
                  have hneg : ¬ (0 : Int) ≤ (i : Int) - (a.lines.length : Int) + 1 := by omega
                  go_wp2
                  go_round
                  case rel => exact ⟨i + 1, by omega, by go_num⟩
                  case measure => simp [intOf]; omega
                · by_cases hie : i + 1 = a.lines.length
                  · obtain ⟨hk, hk2, hxe⟩ := hxy.2.1 hie
                    obtain ⟨b1, o1, rfl, e1⟩ := hcA i hk
                    obtain ⟨b2, o2, rfl, e2⟩ := hcB 0 hk2
                    rw [hxe] at ex
                    clear hcx hcA hcB hxy hxe
                    simp only [strV, Nat.add_zero] at ex e1 e2
                    have hyl : b.lines[0].length ≤ 1000000000000000 := HBY.out _ (List.getElem_mem hk2)
                    have hyl2 : a.lines[i].length ≤ 1000000000000000 := HAY.out _ (List.getElem_mem hk)
                    have hsub : (i : Int) - (a.lines.length : Int) + 1 = 0 := by omega
                    have hin2 : (i : Int) < (a.lines.length : Int) := by omega
                    generalize b.lines[0] = y at *
                    generalize a.lines[i] = z at *
                    have hyy := str_same2 z y
                    go_wp2
                    go_round
                    case rel => exact ⟨i + 1, by omega, by go_num⟩
                    case measure => simp [intOf]; omega
                  · obtain ⟨hk, hxe⟩ := hxy.2.2 (by omega)
                    obtain ⟨b1, o1, rfl, e1⟩ := hcB (i + 1 - a.lines.length) hk
                    rw [hxe] at ex
                    clear hcx hcA hcB hxy hxe
                    simp only [strV] at ex e1
                    have hyl : b.lines[i + 1 - a.lines.length].length ≤ 1000000000000000 := HBY.out _ (List.getElem_mem hk)
                    have hsub : (i : Int) - (a.lines.length : Int) + 1 = ((i + 1 - a.lines.length : Nat) : Int) := by omega
                    have hin2 : ¬ (i : Int) < (a.lines.length : Int) := by omega
                    generalize b.lines[i + 1 - a.lines.length] = y at *
                    generalize i + 1 - a.lines.length = k at *
                    have hyy := str_same0 y
                    go_wp2
                    go_round
                    case rel => exact ⟨i + 1, by omega, by go_num⟩
                    case measure => simp [intOf]; omega
              · obtain rfl : i = dl.length := by omega
                go_wp2
                go_ret
                exact ⟨rfl, hB10.out⟩
  · have Hh := Lib.hid hh
    clear hh
    go_wp2_with (first
          | (go_at_call 9
             rw [HW0.out]
             obtain ⟨W1, hW1, hB1, kA1, kB1, ha1, hb1, ho⟩ : ∃ W, W0.alloc (Obj.cells #[.int .u8 0, .int .u8 0, .slice la a.lines.length lc, .bool a.whole, .int .u8 0, .int .u8 0, .slice lb b.lines.length ld, .bool b.whole] 27) = W ∧ Hid (Below w.heap.size w W) ∧ W.heap[w.heap.size]? = some (.cells #[.slice la a.lines.length lc, .bool a.whole] 24 (0, 0)) ∧ W.heap[w.heap.size + 1]? = some (.cells #[.slice lb b.lines.length ld, .bool b.whole] 24 (0, 0)) ∧ StrsAt W (.slice la a.lines.length lc) a.lines ∧ StrsAt W (.slice lb b.lines.length ld) b.lines ∧ OpsAt W (some ⟨w.heap.size + 1 + 1, 0, none⟩) [⟨0, 0, a⟩, ⟨0, 0, b⟩] :=
               have hb := (Below.refl W0.heap.size W0).alloc (Nat.le_refl _) _
               ⟨_, rfl, Lib.hid (HB0.out.trans (hb.mono HB0.out.size)), keep_blk kA hb, keep_blk kB hb, ha0.below hb, hb0.below hb, op_two ha0 hb0 HZ.out⟩
             rw [hW1]
             refine (heavy_any _ 2 [⟨0, 0, a⟩, ⟨0, 0, b⟩] W1 ho (by simp) (by simp; exact ⟨hal, hbl⟩) (by simp; exact ⟨HAY.out, HBY.out⟩)).mono ?_
             rw [Hh.out]
             rintro e w3 ⟨rfl, rfl⟩
             have a2 := cell_of kA1 0 (v := .slice la a.lines.length lc) rfl
             have b2 := cell_of kB1 0 (v := .slice lb b.lines.length ld) rfl
             clear hW1 kA kB ha0 hb0 ho)
          | (go_at_call 10; refine (known_any _).mono ?_; rintro e w1 ⟨rfl, hq⟩
             have kA2 := keep_blk kA1 hq
             have kB2 := keep_blk kB1 hq
             have ha2 := ha1.below hq
             have hb2 := hb1.below hq
             have hB2 := hB1.out.trans (hq.mono hB1.out.size)
             clear kA1 kB1 ha1 hb1 hq a2 b2))
    go_ret
    exact ⟨rfl, hB2⟩
end Go.Proofs.Ytlhcojclfgbobaa
