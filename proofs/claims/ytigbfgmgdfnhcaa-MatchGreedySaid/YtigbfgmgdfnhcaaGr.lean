/- Plain words: the program of a byte that is taken as often as it stands, between bounds. -/
import Derived.Test.YtigbfgmgdfnhcaaDig
import Derived.Test.YtigbfgmgdfnhcaaBaseA42
import Derived.Test.YtigbfgmgdfnhcaaBaseA0
set_option linter.all false
set_option linter.unusedVariables false
set_option linter.unusedSimpArgs false
namespace Go.Proofs.Ytigbfgmgdfnhcaa
open Go.RowKit

def greedyL (n m : Nat) (lzy : Bool) : List UInt8 := [97, 92, 123] ++ (if lzy = true then [45] else []) ++ digL n ++ [44] ++ digL m ++ [125]
def patG (n m : Nat) (lzy : Bool) : PatD := ⟨[{ op := 2, c := 97 }, { op := 7, min := (n : Int), max := (m : Int), lzy := lzy, kids := [0] }], 1, 0, 0⟩
def grP (lzy : Bool) (n d : Nat) : Bool := match parseF (greedyL n (n + d) lzy) with
  | some (p, e, k) => p.nodes == (patG n (n + d) lzy).nodes && p.root == 1 && p.groups == 0 && p.case == 0 && e == 0 && k == 0
  | none => false
theorem gr_p0 : (List.range 30).all (fun n => (List.range 30).all (grP false n)) = true := by decide +kernel
theorem gr_p1 : (List.range 30).all (fun n => (List.range 30).all (grP true n)) = true := by decide +kernel
theorem parse_gr {n d : Nat} (hn : n < 30) (hd : d < 30) (lzy : Bool) : parseF (greedyL n (n + d) lzy) = some (patG n (n + d) lzy, 0, 0) := by
  have h : grP lzy n d = true := by
    cases lzy
    · exact List.all_eq_true.1 (List.all_eq_true.1 gr_p0 n (List.mem_range.2 hn)) d (List.mem_range.2 hd)
    · exact List.all_eq_true.1 (List.all_eq_true.1 gr_p1 n (List.mem_range.2 hn)) d (List.mem_range.2 hd)
  unfold grP at h
  split at h
  · rename_i p e k hq
    rw [hq]
    simp only [Bool.and_eq_true, beq_iff_eq] at h
    obtain ⟨⟨⟨⟨⟨h1, h2⟩, h3⟩, h4⟩, h5⟩, h6⟩ := h
    obtain ⟨a, b, c, f⟩ := p
    simp only [] at h1 h2 h3 h4
    subst h1 h2 h3 h4 h5 h6
    rfl
  · cases h
def iA : InstD := { op := 1, c := 97 }
def gI (n d : Nat) (lzy : Bool) (k : Nat) : InstD :=
  if k % 4 = 0 then (if lzy = true then { op := 4, x := ((n + 4 * d : Nat) : Int), y := ((n + k + 1 : Nat) : Int) } else { op := 4, x := ((n + k + 1 : Nat) : Int), y := ((n + 4 * d : Nat) : Int) })
  else if k % 4 = 1 then { op := 12, x := ((k / 4 : Nat) : Int) }
  else if k % 4 = 2 then { op := 1, c := 97 }
  else { op := 13, x := ((k / 4 : Nat) : Int) }
def rawI (k : Nat) : InstD :=
  if k % 4 = 0 then { op := 4 }
  else if k % 4 = 1 then { op := 12, x := ((k / 4 : Nat) : Int) }
  else if k % 4 = 2 then { op := 1, c := 97 }
  else { op := 13, x := ((k / 4 : Nat) : Int) }
def qGr (n d : Nat) (lzy : Bool) : ProgD := ⟨List.replicate n { op := 1, c := 97 } ++ ((List.range (4 * d)).map (gI n d lzy) ++ [{ op := 14 }]), d, false⟩
theorem sound_patG {n d : Nat} (hn : n < 30) (hd : d < 30) (lzy : Bool) : soundP (patG n (n + d) lzy) = some true := by
  unfold soundP
  rw [if_neg (by simp [patG])]
  show (match soundF (patG n (n + d) lzy) 3 1 [false, false] with | none => none | some (b, _) => some b) = _
  have f1 : fineN (patG n (n + d) lzy) { op := 7, min := (n : Int), max := ((n + d : Nat) : Int), lzy := lzy, kids := [0] } = true := by
    unfold fineN kidsB
    simp
    omega
  have f0 : fineN (patG n (n + d) lzy) { op := 2, c := 97 } = true := by
    unfold fineN kidsB
    simp
  have e1 : (patG n (n + d) lzy).nodes.getD 1 .zero = { op := 7, min := (n : Int), max := ((n + d : Nat) : Int), lzy := lzy, kids := [0] } := rfl
  have e0 : (patG n (n + d) lzy).nodes.getD 0 .zero = { op := 2, c := 97 } := rfl
  have hl : (patG n (n + d) lzy).nodes.length = 2 := rfl
  rw [soundF, hl, if_neg (by simp), e1, f1, if_neg (by simp)]
  simp only [zzS, zzO, soundL]
  rw [soundF, hl, if_neg (by simp), e0, f0, if_neg (by simp)]
  simp only [soundL]
  have hs : singleB (patG n (n + d) lzy).nodes 0 = true := rfl
  simp [hs]
theorem rec_a (n m : Nat) (lzy : Bool) (f : Nat) (w : WrD) (hl : w.long = false) (hc : w.code.length ≤ 2000) : nodeF (patG n m lzy).nodes (f + 1) 0 w = some { w with code := w.code ++ [iA] } := by
  unfold nodeF
  rw [show (patG n m lzy).nodes.getD 0 .zero = { op := 2, c := 97 } from rfl]
  unfold WrD.node WrD.lay
  rw [hl, if_neg (by simp)]
  simp only [if_true]
  rw [if_neg (by omega)]
  rfl
theorem manyA_a (n m : Nat) (lzy : Bool) (f : Nat) : ∀ (j : Nat) (w : WrD), w.long = false → w.code.length + j ≤ 2000 → manyA (nodeF (patG n m lzy).nodes (f + 1)) 0 j w = some { w with code := w.code ++ List.replicate j iA }
  | 0, w, _, _ => by simp [manyA]
  | j + 1, w, hl, hc => by
    unfold manyA
    rw [if_neg (by simp [hl]), rec_a n m lzy f w hl (by omega)]
    simp only []
    have h := manyA_a n m lzy f j { w with code := w.code ++ [iA] } hl (by simp; omega)
    simp only [] at h
    rw [h]
    simp [List.replicate_succ]
theorem round_a (n m : Nat) (lzy : Bool) (f : Nat) (w : WrD) (hl : w.long = false) (hc : w.code.length + 4 ≤ 2000) : w.round (nodeF (patG n m lzy).nodes (f + 1)) 0 = some (w.code.length, ⟨w.code ++ [{ op := 4 }, { op := 12, x := (w.r : Int) }, iA, { op := 13, x := (w.r : Int) }], w.r + 1, false⟩) := by
  have l0 : w.lay { op := 4 } = (w.code.length, ⟨w.code ++ [{ op := 4 }], w.r, false⟩) := by
    unfold WrD.lay; rw [if_neg (by omega), ← hl]
  have l1 : WrD.lay ⟨w.code ++ [{ op := 4 }], w.r + 1, false⟩ { op := 12, x := (w.r : Int) } = (w.code.length + 1, ⟨w.code ++ [{ op := 4 }, { op := 12, x := (w.r : Int) }], w.r + 1, false⟩) := by
    unfold WrD.lay; rw [if_neg (by simp; omega)]; simp
  have l2 : WrD.lay ⟨w.code ++ [{ op := 4 }, { op := 12, x := (w.r : Int) }, iA], w.r + 1, false⟩ { op := 13, x := (w.r : Int) } = (w.code.length + 3, ⟨w.code ++ [{ op := 4 }, { op := 12, x := (w.r : Int) }, iA, { op := 13, x := (w.r : Int) }], w.r + 1, false⟩) := by
    unfold WrD.lay; rw [if_neg (by simp; omega)]; simp
  unfold WrD.round
  rw [l0]
  simp only []
  rw [l1]
  simp only []
  rw [rec_a n m lzy f _ rfl (by simp; omega)]
  simp only [List.append_assoc, List.cons_append, List.nil_append]
  rw [l2]
theorem raw_four (i : Nat) : (List.range (4 * (i + 1))).map rawI = (List.range (4 * i)).map rawI ++ [{ op := 4 }, { op := 12, x := (i : Int) }, iA, { op := 13, x := (i : Int) }] := by
  rw [show 4 * (i + 1) = 4 * i + 1 + 1 + 1 + 1 by omega, List.range_succ, List.range_succ, List.range_succ, List.range_succ]
  have r0 : rawI (4 * i) = { op := 4 } := by unfold rawI; rw [if_pos (by omega)]
  have r1 : rawI (4 * i + 1) = { op := 12, x := (i : Int) } := by unfold rawI; rw [if_neg (by omega), if_pos (by omega), show (4 * i + 1) / 4 = i by omega]
  have r2 : rawI (4 * i + 1 + 1) = iA := by unfold rawI; rw [if_neg (by omega), if_neg (by omega), if_pos (by omega)]; rfl
  have r3 : rawI (4 * i + 1 + 1 + 1) = { op := 13, x := (i : Int) } := by unfold rawI; rw [if_neg (by omega), if_neg (by omega), if_neg (by omega), show (4 * i + 1 + 1 + 1) / 4 = i by omega]
  simp [r0, r1, r2, r3]
theorem manyB_a (n m : Nat) (lzy : Bool) (f d : Nat) (pre : List InstD) (hp : pre.length + 4 * d ≤ 1900) : ∀ (j i : Nat) (l : List Nat), i + j = d →
    manyB (nodeF (patG n m lzy).nodes (f + 1)) 0 j ⟨pre ++ (List.range (4 * i)).map rawI, i, false⟩ l = some (⟨pre ++ (List.range (4 * d)).map rawI, d, false⟩, l ++ (List.range' i j).map fun i => pre.length + 4 * i)
  | 0, i, l, h => by
    obtain rfl : i = d := by omega
    simp [manyB]
  | j + 1, i, l, h => by
    unfold manyB
    rw [if_neg (by simp), round_a n m lzy f _ rfl (by simp; omega)]
    simp only [List.append_assoc]
    rw [← raw_four i, manyB_a n m lzy f d pre hp j (i + 1) _ (by omega)]
    simp [List.range'_succ]
def mixI (n d : Nat) (lzy : Bool) (i k : Nat) : InstD := if k < 4 * i then gI n d lzy k else rawI k
theorem gI_raw {n d : Nat} {lzy : Bool} {k : Nat} (h : k % 4 ≠ 0) : gI n d lzy k = rawI k := by
  unfold gI rawI
  rw [if_neg h, if_neg h]
theorem to_mix (n d r : Nat) (lzy : Bool) (pre : List InstD) (hp : pre.length = n) (i : Nat) (hi : i < d) :
    WrD.to ⟨pre ++ (List.range (4 * d)).map (mixI n d lzy i), r, false⟩ (n + 4 * i) (n + 4 * d) lzy = ⟨pre ++ (List.range (4 * d)).map (mixI n d lzy (i + 1)), r, false⟩ := by
  have hg : (pre ++ (List.range (4 * d)).map (mixI n d lzy i)).getD (n + 4 * i) .zero = { op := 4 } := by
    rw [List.getD_eq_getElem?_getD, List.getElem?_append_right (by omega), List.getElem?_map, List.getElem?_range (by omega)]
    show mixI n d lzy i (n + 4 * i - pre.length) = _
    rw [show n + 4 * i - pre.length = 4 * i by omega]
    unfold mixI rawI
    rw [if_neg (by omega), if_pos (by omega)]
  have hs : ∀ v : InstD, v = gI n d lzy (4 * i) → (pre ++ (List.range (4 * d)).map (mixI n d lzy i)).set (n + 4 * i) v = pre ++ (List.range (4 * d)).map (mixI n d lzy (i + 1)) := by
    intro v hv
    rw [List.set_append_right _ _ (by omega), show n + 4 * i - pre.length = 4 * i by omega]
    congr 1
    apply List.ext_getElem?
    intro k
    rw [List.getElem?_set]
    by_cases hk : k < 4 * d
    · by_cases he : 4 * i = k
      · subst he
        rw [if_pos rfl, if_pos (by simp; omega), List.getElem?_map, List.getElem?_range hk]
        show some v = some (mixI n d lzy (i + 1) (4 * i))
        unfold mixI
        rw [if_pos (by omega), hv]
      · rw [if_neg he, List.getElem?_map, List.getElem?_map, List.getElem?_range hk]
        show some (mixI n d lzy i k) = some (mixI n d lzy (i + 1) k)
        unfold mixI
        by_cases h1 : k < 4 * i
        · rw [if_pos h1, if_pos (by omega)]
        · rw [if_neg h1]
          by_cases h2 : k < 4 * (i + 1)
          · rw [if_pos h2, gI_raw (by omega)]
          · rw [if_neg h2]
    · rw [if_neg (by omega), List.getElem?_eq_none (by simp; omega), List.getElem?_eq_none (by simp; omega)]
  unfold WrD.to WrD.put
  cases lzy
  · rw [if_neg (by decide)]
    simp only [hg]
    rw [hs _ (by unfold gI; rw [if_pos (by omega), if_neg (by decide)]; simp)]
  · rw [if_pos rfl]
    simp only [hg]
    rw [hs _ (by unfold gI; rw [if_pos (by omega), if_pos rfl]; simp)]
theorem ways_mix (n d r : Nat) (lzy : Bool) (pre : List InstD) (hp : pre.length = n) : ∀ (j i : Nat), i + j = d →
    waysTo lzy ⟨pre ++ (List.range (4 * d)).map (mixI n d lzy i), r, false⟩ ((List.range' i j).map fun i => n + 4 * i) = ⟨pre ++ (List.range (4 * d)).map (mixI n d lzy d), r, false⟩
  | 0, i, h => by
    obtain rfl : i = d := by omega
    simp [waysTo]
  | j + 1, i, h => by
    rw [List.range'_succ, List.map_cons]
    unfold waysTo
    rw [List.foldl_cons]
    have hl : (pre ++ (List.range (4 * d)).map (mixI n d lzy i)).length = n + 4 * d := by simp; omega
    simp only [hl]
    rw [to_mix n d r lzy pre hp i (by omega)]
    exact ways_mix n d r lzy pre hp j (i + 1) (by omega)
theorem node_gr {n d : Nat} (hn : n < 30) (hd : d < 30) (lzy : Bool) : nodeF (patG n (n + d) lzy).nodes 3 1 ⟨[], 0, false⟩ = some ⟨List.replicate n iA ++ (List.range (4 * d)).map (gI n d lzy), d, false⟩ := by
  rw [nodeF]
  rw [show (patG n (n + d) lzy).nodes.getD 1 .zero = { op := 7, min := (n : Int), max := ((n + d : Nat) : Int), lzy := lzy, kids := [0] } from rfl]
  unfold WrD.node
  simp only [Bool.false_eq_true, if_false]
  rw [if_neg (by decide), if_neg (by decide), if_neg (by decide), if_neg (by decide), if_neg (by decide), if_pos trivial]
  unfold WrD.many
  simp only [List.headD_cons, Int.toNat_natCast]
  rw [manyA_a n (n + d) lzy 1 n _ rfl (by simp; omega)]
  simp only [Bool.false_eq_true, if_false, List.nil_append]
  rw [if_neg (by omega)]
  have hb := manyB_a n (n + d) lzy 1 d (List.replicate n iA) (by simp; omega) d 0 [] (by omega)
  rw [Nat.mul_zero, List.range_zero, List.map_nil, List.append_nil] at hb
  rw [show (((n + d : Nat) : Int) - (n : Int)).toNat = d by omega, hb]
  simp only [List.nil_append, List.length_replicate]
  have h0 : (List.range (4 * d)).map rawI = (List.range (4 * d)).map (mixI n d lzy 0) := by
    apply List.map_congr_left
    intro k _
    unfold mixI
    rw [if_neg (by omega)]
  have h1 : (List.range (4 * d)).map (gI n d lzy) = (List.range (4 * d)).map (mixI n d lzy d) := by
    apply List.map_congr_left
    intro k hk
    unfold mixI
    rw [if_pos (List.mem_range.1 hk)]
  rw [h0, h1, ways_mix n d d lzy (List.replicate n iA) (by simp) d 0 (by omega)]
theorem comp_gr {n d : Nat} (hn : n < 30) (hd : d < 30) (lzy : Bool) : compiledF (greedyL n (n + d) lzy) false = some (qGr n d lzy) := by
  unfold compiledF
  rw [parse_gr hn hd]
  simp only [ne_eq, not_true_eq_false, if_false]
  unfold compileF
  rw [sound_patG hn hd]
  simp only []
  rw [show (patG n (n + d) lzy).nodes.length + 1 = 3 from rfl, show (patG n (n + d) lzy).root = 1 from rfl, node_gr hn hd]
  simp only []
  have hl : (WrD.lay ⟨List.replicate n iA ++ (List.range (4 * d)).map (gI n d lzy), d, false⟩ { op := 14 }).2 = ⟨List.replicate n iA ++ ((List.range (4 * d)).map (gI n d lzy) ++ [{ op := 14 }]), d, false⟩ := by
    unfold WrD.lay
    rw [if_neg (by simp; omega)]
    simp
  rw [hl, if_neg (by simp; omega)]
  rfl
theorem gr_len (n d : Nat) (lzy : Bool) : (qGr n d lzy).code.length = n + 4 * d + 1 := by simp [qGr]; omega
theorem sound_gr {n d : Nat} (hn : n < 30) (hd : d < 30) (lzy : Bool) : soundB (qGr n d lzy) = true := by
  unfold soundB
  rw [gr_len]
  simp only [Bool.and_eq_true, Bool.or_eq_true, decide_eq_true_eq]
  refine ⟨⟨⟨⟨⟨by omega, by omega⟩, ?_⟩, ?_⟩, ?_⟩, .inl ?_⟩
  · show (0 : Int) ≤ (d : Int); omega
  · show (d : Int) ≤ 2000; omega
  · apply List.all_eq_true.2
    intro i hi
    have hfl : ∀ i, fineB (qGr n d lzy) i = (if i.op = 4 then placeB i.x ((n + 4 * d + 1 : Nat) : Int) && placeB i.y ((n + 4 * d + 1 : Nat) : Int) else if i.op = 5 then placeB i.x ((n + 4 * d + 1 : Nat) : Int) else if i.op = 6 then placeB i.x 22
  else if i.op = 7 then placeB i.x 10 else if i.op = 12 ∨ i.op = 13 then placeB i.x (d : Int) else decide (1 ≤ i.op) && decide (i.op ≤ 14)) := by
      intro i
      unfold fineB
      rw [gr_len]
      rfl
    rw [hfl]
    unfold qGr at hi
    simp only [List.mem_append, List.mem_replicate, List.mem_map, List.mem_range, List.mem_singleton] at hi
    rcases hi with ⟨_, rfl⟩ | ⟨k, hk, rfl⟩ | rfl
    · rfl
    · unfold gI placeB
      split
      · split <;> (rw [if_pos rfl]; simp; omega)
      · split
        · simp
          omega
        · split
          · rfl
          · simp
            omega
    · rfl
  · simp [qGr]
theorem code_a {n d : Nat} {lzy : Bool} {i : Nat} (h : i < n) : (qGr n d lzy).code[i]? = some { op := 1, c := 97 } := by
  show (List.replicate n { op := 1, c := 97 } ++ ((List.range (4 * d)).map (gI n d lzy) ++ [{ op := 14 }]) : List InstD)[i]? = _
  rw [List.getElem?_append_left (by simpa using h), List.getElem?_replicate, if_pos h]
theorem code_g {n d : Nat} {lzy : Bool} {k : Nat} (h : k < 4 * d) : (qGr n d lzy).code[n + k]? = some (gI n d lzy k) := by
  show (List.replicate n { op := 1, c := 97 } ++ ((List.range (4 * d)).map (gI n d lzy) ++ [{ op := 14 }]) : List InstD)[n + k]? = _
  rw [List.getElem?_append_right (by simp), List.getElem?_append_left (by simpa using h), List.getElem?_map]
  simp [h]
theorem code_m {n d : Nat} {lzy : Bool} : (qGr n d lzy).code[n + 4 * d]? = some { op := 14 } := by
  show (List.replicate n { op := 1, c := 97 } ++ ((List.range (4 * d)).map (gI n d lzy) ++ [{ op := 14 }]) : List InstD)[n + 4 * d]? = _
  rw [List.getElem?_append_right (by simp), List.getElem?_append_right (by simp)]
  simp
theorem bl_rep {many p : Nat} (h : p < many) : bl (List.replicate many 97) p = 97 := by
  unfold bl
  rw [List.getElem?_replicate, if_pos h]
  rfl
theorem step_a (many p : Nat) (hp : p ≤ many) (i : Nat) (sl rs : List Int) (ts : List TryD) : stepF false (List.replicate many 97) ⟨i, p, sl, rs⟩ { op := 1, c := 97 } ts = if p < many then some (⟨i + 1, p + 1, sl, rs⟩, ts) else none := by
  unfold stepF
  simp only [List.length_replicate]
  rw [if_pos (by decide)]
  by_cases h : p < many
  · have ht : takesF false { op := 1, c := 97 } (bl (List.replicate many 97) p) = true := by rw [bl_rep h]; rfl
    rw [ht, if_neg (by rintro (g | g); omega; cases g), if_pos h]
  · rw [if_pos (.inl (by omega)), if_neg h]
/-- The match, by where it ends. -/
def gM (p : Nat) : MatchD := matchF { firstT 0 0 with pos := p } 0
theorem gM_eq (p i : Nat) (rs : List Int) : matchF ⟨i, p, (firstT 0 0).slots, rs⟩ 0 = gM p := rfl
theorem gM_len (p : Nat) : (gM p).beg.length = 10 ∧ (gM p).end_.length = 10 := by
  unfold gM; rw [← partM_nine]; exact ⟨partM_blen _ _ _, partM_elen _ _ _⟩
theorem gM_ends (p : Nat) : (gM p).from_ = 0 ∧ (gM p).to_ = (p : Int) := by
  have e1 : fromG { firstT 0 0 with pos := p } 0 = 0 := rfl
  have e2 : toG { firstT 0 0 with pos := p } = (p : Int) := rfl
  unfold gM
  rw [matchF_eq, e1, e2]
  exact ⟨rfl, by show max (0 : Int) (p : Int) = _; omega⟩
theorem run_more (n d many : Nat) : ∀ (k i f st : Nat) (rs : List Int) (ts : List TryD), i + k = d → n + i ≤ many → rs.length = d →
    ∃ left : Nat, runF (qGr n d false) (List.replicate many 97) 0 (f + 4 * k + 6) (st + 4 * k + 4) (some ⟨n + 4 * i, n + i, (firstT 0 0).slots, rs⟩) ts = some ⟨gM (min many (n + d)), (left : Nat), true, 0⟩
  | 0, i, f, st, rs, ts, h1, h2, h3 => by
    obtain rfl : i = d := by omega
    refine ⟨st + 3, ?_⟩
    rw [show f + 4 * 0 + 6 = (f + 5) + 1 by omega, show st + 4 * 0 + 4 = (st + 3) + 1 by omega, runF, code_m]
    simp only [if_true]
    rw [gM_eq, show min many (n + i) = n + i by omega]
  | k + 1, i, f, st, rs, ts, h1, h2, h3 => by
    have hi : i < d := by omega
    have c0 : (qGr n d false).code[n + 4 * i]? = some { op := 4, x := ((n + 4 * i + 1 : Nat) : Int), y := ((n + 4 * d : Nat) : Int) } := by
      rw [code_g (by omega)]
      unfold gI
      rw [if_pos (by omega), if_neg (by decide)]
    have c1 : (qGr n d false).code[n + 4 * i + 1]? = some { op := 12, x := (i : Int) } := by
      rw [show n + 4 * i + 1 = n + (4 * i + 1) by omega, code_g (by omega)]
      unfold gI
      rw [if_neg (by omega), if_pos (by omega), show (4 * i + 1) / 4 = i by omega]
    have c2 : (qGr n d false).code[n + 4 * i + 1 + 1]? = some { op := 1, c := 97 } := by
      rw [show n + 4 * i + 1 + 1 = n + (4 * i + 2) by omega, code_g (by omega)]
      unfold gI
      rw [if_neg (by omega), if_neg (by omega), if_pos (by omega)]
    have c3 : (qGr n d false).code[n + 4 * i + 1 + 1 + 1]? = some { op := 13, x := (i : Int) } := by
      rw [show n + 4 * i + 1 + 1 + 1 = n + (4 * i + 3) by omega, code_g (by omega)]
      unfold gI
      rw [if_neg (by omega), if_neg (by omega), if_neg (by omega), show (4 * i + 3) / 4 = i by omega]
    rw [show f + 4 * (k + 1) + 6 = (f + 4 * k + 9) + 1 by omega, show st + 4 * (k + 1) + 4 = (st + 4 * k + 7) + 1 by omega, runF, c0]
    simp only [show ¬ ((4 : Int) = 14) by decide, if_false]
    have s0 : stepF (qGr n d false).fold (List.replicate many 97) ⟨n + 4 * i, n + i, (firstT 0 0).slots, rs⟩ { op := 4, x := ((n + 4 * i + 1 : Nat) : Int), y := ((n + 4 * d : Nat) : Int) } ts
        = some (⟨n + 4 * i + 1, n + i, (firstT 0 0).slots, rs⟩, ts ++ [⟨n + 4 * d, n + i, (firstT 0 0).slots, rs⟩]) := by
      unfold stepF
      simp only []
      rw [if_neg (by decide), if_pos (by decide), Int.toNat_natCast, Int.toNat_natCast]
    rw [s0]
    simp only []
    rw [show f + 4 * k + 9 = (f + 4 * k + 8) + 1 by omega, show st + 4 * k + 7 = (st + 4 * k + 6) + 1 by omega, runF, c1]
    simp only [show ¬ ((12 : Int) = 14) by decide, if_false]
    have s1 : ∀ ts, stepF (qGr n d false).fold (List.replicate many 97) ⟨n + 4 * i + 1, n + i, (firstT 0 0).slots, rs⟩ { op := 12, x := (i : Int) } ts
        = some (⟨n + 4 * i + 1 + 1, n + i, (firstT 0 0).slots, rs.set i ((n + i : Nat) : Int)⟩, ts) := by
      intro ts
      unfold stepF
      simp only []
      rw [if_neg (by decide), if_neg (by decide), if_neg (by decide), if_neg (by decide), if_neg (by decide), if_pos (by decide), Int.toNat_natCast]
    rw [s1]
    simp only []
    rw [show f + 4 * k + 8 = (f + 4 * k + 7) + 1 by omega, show st + 4 * k + 6 = (st + 4 * k + 5) + 1 by omega, runF, c2]
    simp only [show ¬ ((1 : Int) = 14) by decide, if_false]
    rw [show (qGr n d false).fold = false from rfl, step_a many (n + i) h2]
    by_cases hp : n + i < many
    · rw [if_pos hp]
      simp only []
      rw [show f + 4 * k + 7 = (f + 4 * k + 6) + 1 by omega, show st + 4 * k + 5 = (st + 4 * k + 4) + 1 by omega, runF, c3]
      simp only [show ¬ ((13 : Int) = 14) by decide, if_false]
      have s3 : ∀ ts, stepF (qGr n d false).fold (List.replicate many 97) ⟨n + 4 * i + 1 + 1 + 1, n + i + 1, (firstT 0 0).slots, rs.set i ((n + i : Nat) : Int)⟩ { op := 13, x := (i : Int) } ts
          = some (⟨n + 4 * (i + 1), n + (i + 1), (firstT 0 0).slots, rs.set i ((n + i : Nat) : Int)⟩, ts) := by
        intro ts
        unfold stepF
        simp only []
        rw [if_neg (by decide), if_neg (by decide), if_neg (by decide), if_neg (by decide), if_neg (by decide), if_neg (by decide), if_pos (by decide), Int.toNat_natCast]
        rw [if_neg (by rw [List.getD_eq_getElem?_getD, List.getElem?_set_self (by omega)]; show ¬ ((n + i : Nat) : Int) = _; omega)]
        rfl
      rw [s3]
      simp only []
      exact run_more n d many k (i + 1) f st _ _ (by omega) (by omega) (by simpa using h3)
    · rw [if_neg hp]
      simp only []
      refine ⟨st + 4 * k + 4, ?_⟩
      rw [show f + 4 * k + 7 = (f + 4 * k + 6) + 1 by omega, runF]
      simp only [List.getLast?_concat, List.dropLast_concat]
      rw [show f + 4 * k + 6 = (f + 4 * k + 5) + 1 by omega, show st + 4 * k + 5 = (st + 4 * k + 4) + 1 by omega, runF, code_m]
      simp only [if_true]
      rw [gM_eq, show min many (n + d) = n + i by omega]
theorem run_lazy (n d many f st : Nat) (rs : List Int) : ∃ left : Nat, runF (qGr n d true) (List.replicate many 97) 0 (f + 4 * d + 6) (st + 4 * d + 4) (some ⟨n, n, (firstT 0 0).slots, rs⟩) [] = some ⟨gM n, (left : Nat), true, 0⟩ := by
  rcases Nat.eq_zero_or_pos d with h | h
  · subst h
    refine ⟨st + 3, ?_⟩
    have c := code_m (n := n) (d := 0) (lzy := true)
    rw [Nat.mul_zero, Nat.add_zero] at c
    rw [show f + 4 * 0 + 6 = (f + 5) + 1 by omega, show st + 4 * 0 + 4 = (st + 3) + 1 by omega, runF, c]
    rfl
  · have c0 : (qGr n d true).code[n]? = some { op := 4, x := ((n + 4 * d : Nat) : Int), y := ((n + 1 : Nat) : Int) } := by
      have := code_g (n := n) (d := d) (lzy := true) (k := 0) (by omega)
      rw [Nat.add_zero] at this
      rw [this]
      unfold gI
      rw [if_pos (by omega), if_pos rfl]
    refine ⟨st + 4 * d + 2, ?_⟩
    rw [show f + 4 * d + 6 = (f + 4 * d + 4 + 1) + 1 by omega, show st + 4 * d + 4 = (st + 4 * d + 2 + 1) + 1 by omega, runF, c0]
    simp only [show ¬ ((4 : Int) = 14) by decide, if_false]
    have s0 : stepF (qGr n d true).fold (List.replicate many 97) ⟨n, n, (firstT 0 0).slots, rs⟩ { op := 4, x := ((n + 4 * d : Nat) : Int), y := ((n + 1 : Nat) : Int) } []
        = some (⟨n + 4 * d, n, (firstT 0 0).slots, rs⟩, [⟨n + 1, n, (firstT 0 0).slots, rs⟩]) := by
      unfold stepF
      simp only []
      rw [if_neg (by decide), if_pos (by decide), Int.toNat_natCast, Int.toNat_natCast]
      rfl
    rw [s0]
    simp only []
    rw [runF, code_m]
    rfl
theorem run_first (n d many : Nat) (lzy : Bool) (rs : List Int) (R : Nat → Option ResD) (f st : Nat) (hR : n ≤ many → ∃ left, runF (qGr n d lzy) (List.replicate many 97) 0 (f + 2) st (some ⟨n, n, (firstT 0 0).slots, rs⟩) [] = R left) :
    ∀ (k i : Nat), i + k = n → i ≤ many → ∃ left, runF (qGr n d lzy) (List.replicate many 97) 0 (f + 2 + k) (st + k) (some ⟨i, i, (firstT 0 0).slots, rs⟩) [] = if n ≤ many then R left else some ⟨.zero, (left : Nat), false, 0⟩
  | 0, i, h1, h2 => by
    obtain rfl : i = n := by omega
    obtain ⟨left, h⟩ := hR h2
    exact ⟨left, by rw [if_pos h2]; exact h⟩
  | k + 1, i, h1, h2 => by
    have hi : i < n := by omega
    rw [show f + 2 + (k + 1) = (f + 2 + k) + 1 by omega, show st + (k + 1) = (st + k) + 1 by omega, runF, code_a hi]
    simp only [show ¬ ((1 : Int) = 14) by decide, if_false]
    rw [show (qGr n d lzy).fold = false from rfl, step_a many i h2]
    by_cases hp : i < many
    · rw [if_pos hp]
      simp only []
      exact run_first n d many lzy rs R f st hR k (i + 1) (by omega) (by omega)
    · rw [if_neg hp]
      simp only []
      refine ⟨st + k, ?_⟩
      rw [if_neg (by omega), show f + 2 + k = (f + 1 + k) + 1 by omega, runF]
      rfl
theorem at_gr {n d : Nat} (hn : n < 30) (hd : d < 30) (lzy : Bool) (many : Nat) :
    ∃ left : Nat, atF (qGr n d lzy) (List.replicate many 97) 0 5000 = if n ≤ many then some ⟨gM (if lzy = true then n else min many (n + d)), (left : Nat), true, 0⟩ else some ⟨.zero, (left : Nat), false, 0⟩ := by
  unfold atF
  rw [if_neg (by rintro (g | g | g | g | g) <;> first | exact absurd ((sound_gr hn hd lzy).symm.trans g) (by decide) | omega)]
  have e : (qGr n d lzy).rounds = (d : Int) := rfl
  rw [e]
  have hrl : (firstT 0 (d : Int)).rounds.length = d := by simp [firstT]
  have hf : firstT (0 : Int).toNat (d : Int) = ⟨0, 0, (firstT 0 0).slots, (firstT 0 (d : Int)).rounds⟩ := rfl
  rw [hf]
  generalize (firstT 0 (d : Int)).rounds = rs at hrl ⊢
  obtain ⟨f, hfu⟩ : ∃ f, 3 * (5000 : Int).toNat + 4 = (f + 4 * d + 4 + 2 + n) + 1 := ⟨3 * 5000 + 4 - (4 * d + 4 + 2 + n + 1), by omega⟩
  obtain ⟨st, hst⟩ : ∃ st, (5000 : Int).toNat = st + 4 * d + 4 + n := ⟨5000 - (4 * d + 4 + n), by omega⟩
  have key := run_first n d many lzy rs (fun left => some ⟨gM (if lzy = true then n else min many (n + d)), (left : Nat), true, 0⟩) (f + 4 * d + 4) (st + 4 * d + 4) (fun h => by
    cases lzy
    · obtain ⟨left, g⟩ := run_more n d many d 0 f st rs [] (by omega) (by omega) hrl
      exact ⟨left, g⟩
    · exact run_lazy n d many f st rs) n 0 (by omega) (by omega)
  obtain ⟨left, g⟩ := key
  refine ⟨left, ?_⟩
  rw [← g, hfu, hst, runF]
  rfl
end Go.Proofs.Ytigbfgmgdfnhcaa
