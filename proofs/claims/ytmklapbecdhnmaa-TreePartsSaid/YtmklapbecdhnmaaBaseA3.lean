/- Lemmas that the law's proof stands on, part 3: Tf, Tg. No condition. -/
import Derived.Test.YtmklapbecdhnmaaBaseA0
import Derived.Test.YtmklapbecdhnmaaBaseA2
set_option linter.all false
set_option linter.unusedVariables false
set_option linter.unusedSimpArgs false
namespace Go.Proofs.Ytmklapbecdhnmaa
theorem insL_app {α : Type} (a b : List α) (i : Nat) (x : α) (h : a.length ≤ i) : insL (a ++ b) i x = a ++ insL b (i - a.length) x := by
  unfold insL
  rw [List.take_append, List.drop_append, List.take_of_length_le h, List.drop_eq_nil_of_le h]
  simp
theorem insL_app2 {α : Type} (a b : List α) (i : Nat) (x : α) (h : i ≤ a.length) : insL (a ++ b) i x = insL a i x ++ b := by
  unfold insL
  rw [List.take_append, List.drop_append, show i - a.length = 0 by omega]
  simp
theorem insL_mid {α : Type} (a b c : List α) (i : Nat) (x : α) (h : a.length ≤ i) (h2 : i ≤ a.length + b.length) : insL (a ++ (b ++ c)) i x = a ++ (insL b (i - a.length) x ++ c) := by
  rw [insL_app _ _ _ _ h, insL_app2 _ _ _ _ (by omega)]
theorem insL_len {α : Type} (a : List α) (i : Nat) (x : α) : (insL a i x).length = a.length + 1 := by
  unfold insL
  rw [List.length_append, List.length_cons, List.length_take, List.length_drop]
  omega
theorem insL_next {α : Type} (a b : List α) (y x : α) : insL (a ++ y :: b) (a.length + 1) x = a ++ y :: x :: b := by
  rw [insL_app _ _ _ _ (by omega)]
  rw [show a.length + 1 - a.length = 1 by omega]
  rfl
theorem find_spec {t : TD} : ∀ (subs : List Sub) (n i : Nat), subs ≠ [] → (∀ s ∈ subs, (t.get s.k).count = s.ls.length) → i ≤ (linesOf subs).length →
    ∃ pre s post, subs = pre ++ s :: post ∧ t.find (kidsOf subs) n i = (n + pre.length, i - (linesOf pre).length) ∧ (linesOf pre).length ≤ i ∧ i ≤ (linesOf pre).length + s.ls.length ∧ (i < (linesOf subs).length → i < (linesOf pre).length + s.ls.length)
  | [], n, i, h, _, _ => absurd rfl h
  | [s], n, i, _, hc, hi => ⟨[], s, [], rfl, rfl, Nat.zero_le _, by simpa [linesOf] using hi, fun g => by simpa [linesOf] using g⟩
  | s :: b :: r, n, i, _, hc, hi => by
    have hs := hc s (List.mem_cons_self)
    show ∃ pre s' post, _ ∧ t.find (s.k :: b.k :: kidsOf r) n i = _ ∧ _
    unfold TD.find
    rw [hs]
    by_cases h : i < s.ls.length
    · rw [if_pos h]
      exact ⟨[], s, b :: r, rfl, rfl, Nat.zero_le _, by simp [linesOf]; omega, fun _ => by simpa [linesOf] using h⟩
    · rw [if_neg h]
      have hl : (linesOf (s :: b :: r)).length = s.ls.length + (linesOf (b :: r)).length := by rw [linesOf_cons, List.length_append]
      obtain ⟨pre, x, post, e1, e2, e3, e4, e5⟩ := find_spec (b :: r) (n + 1) (i - s.ls.length) (by simp) (fun y hy => hc y (List.mem_cons_of_mem _ hy)) (by omega)
      refine ⟨s :: pre, x, post, by rw [e1]; rfl, ?_, ?_, ?_, ?_⟩
      · show t.find (kidsOf (b :: r)) (n + 1) (i - s.ls.length) = _
        rw [e2, linesOf_cons, List.length_append, List.length_cons]
        congr 1
        · omega
        · omega
      · rw [linesOf_cons, List.length_append]; omega
      · rw [linesOf_cons, List.length_append]; omega
      · intro g
        rw [linesOf_cons, List.length_append]
        have := e5 (by omega)
        omega
theorem kid_at (pre : List Sub) (s : Sub) (post : List Sub) : (kidsOf (pre ++ s :: post)).getD pre.length 0 = s.k := by
  rw [kidsOf_app, kidsOf_cons, List.getD_eq_getElem?_getD, List.getElem?_append_right (by rw [kidsOf_len]; exact Nat.le_refl _), kidsOf_len]
  simp
theorem kids_size {t : TD} {k c : Nat} {subs : List Sub} (h : t.nodes[k]? = some ⟨[], kidsOf subs, c⟩) : (t.get k).size = subs.length ∧ (t.get k).kids = kidsOf subs := by
  rw [get_of h]
  exact ⟨by simp [ND.size, kidsOf_len], rfl⟩
theorem kidsOf_ne {subs : List Sub} (h : subs ≠ []) : kidsOf subs ≠ [] := by
  cases subs with
  | nil => exact absurd rfl h
  | cons a b => simp [kidsOf]
/-- A leaf is counted anew. -/
theorem sum_leaf {t : TD} {k c : Nat} {ls : List ByteArray} (h : t.nodes[k]? = some ⟨ls, [], c⟩) : Rep (t.sum k) 0 k ls [k] := by
  refine ⟨?_, rfl⟩
  unfold TD.sum
  rw [get_of h, put_self _ (lt_of_node h)]
  rfl
theorem sum_node {t : TD} {h k c : Nat} {subs : List Sub} (hk : t.nodes[k]? = some ⟨[], kidsOf subs, c⟩) (hs : Subs t h subs) (hne : subs ≠ []) (hd : k ∉ printOf subs) : Rep (t.sum k) (h + 1) k (linesOf subs) (k :: printOf subs) := by
  have e : ∀ j ∈ printOf subs, (t.sum k).nodes[j]? = t.nodes[j]? := fun j hj => put_other t _ (fun e => hd (e ▸ hj))
  refine ⟨subs, ?_, rfl, rfl, hne, hs.congr e⟩
  unfold TD.sum
  rw [get_of hk, put_self _ (lt_of_node hk)]
  show some (⟨[], kidsOf subs, ([] : List ByteArray).length + t.counts (kidsOf subs)⟩ : ND) = _
  rw [hs.counts]
  simp
theorem Step.sum {t : TD} {fp : List Nat} (g : Good t fp) {k : Nat} (hk : k ∈ fp) : Step t fp (t.sum k) fp := Step.put g hk _
theorem sum_size (t : TD) (k : Nat) : ((t.sum k).get k).size = (t.get k).size := by
  unfold TD.sum
  by_cases h : k < t.nodes.length
  · rw [get_of (put_self _ h)]
    rfl
  · rw [get_same (t := t) (by rw [put_nodes, if_pos rfl, if_neg h, List.getElem?_eq_none (by omega)])]
theorem sum_other (t : TD) {k j : Nat} (h : k ≠ j) : (t.sum k).nodes[j]? = t.nodes[j]? := put_other t _ h
theorem Subs.app {t : TD} {h : Nat} {a b : List Sub} (x : Subs t h a) (y : Subs t h b) : Subs t h (a ++ b) := fun s hs => by
  rcases List.mem_append.1 hs with g | g
  · exact x s g
  · exact y s g
theorem Subs.left {t : TD} {h : Nat} {a b : List Sub} (x : Subs t h (a ++ b)) : Subs t h a := fun s hs => x s (List.mem_append.2 (.inl hs))
theorem Subs.right {t : TD} {h : Nat} {a b : List Sub} (x : Subs t h (a ++ b)) : Subs t h b := fun s hs => x s (List.mem_append.2 (.inr hs))
theorem fine_leaf {t : TD} {k c : Nat} {ls : List ByteArray} {fp : List Nat} (h : t.nodes[k]? = some ⟨ls, [], c⟩) (g : Good t fp) (hl : ls.length ≤ 100) (hd : t.load ≤ 10000000) : t.fine k := by
  have e := get_of h
  refine ⟨lt_of_node h, by rw [e]; exact hl, by rw [e]; simp, fun j hj => ?_, ?_, fun j hj => g.lt j (by simp [hj]), hd, fun h => absurd (by rw [e]) h⟩
  · rw [e] at hj; cases hj
  · rw [e]
    show ls.length + 0 ≤ _
    omega
theorem fine_node {t : TD} {h k c : Nat} {subs : List Sub} {fp : List Nat} (hk : t.nodes[k]? = some ⟨[], kidsOf subs, c⟩) (hs : Subs t h subs) (hd : k ∉ printOf subs) (g : Good t fp) (hl : subs.length ≤ 100) (hn : (linesOf subs).length ≤ 1000000) (hL : t.load ≤ 10000000) : t.fine k := by
  have e := get_of hk
  refine ⟨lt_of_node hk, by rw [e]; simp, by rw [e]; simp [kidsOf_len]; exact hl, fun j hj => ?_, ?_, fun j hj => g.lt j (by simp [hj]), hL, fun _ => by rw [e]⟩
  · rw [e] at hj
    obtain ⟨s, hm, rfl⟩ := List.mem_map.1 hj
    have := (hs s hm).1.head
    exact ⟨this.2.1, fun e => hd (e ▸ List.mem_flatMap.2 ⟨s, hm, this.1⟩)⟩
  · rw [e]
    show 0 + t.counts (kidsOf subs) ≤ _
    rw [hs.counts]
    omega
def SafeSplit (t : TD) (k : Nat) : Prop := 8 < (t.get k).size → (t.cut k).2.fine k ∧ ((t.cut k).2.sum k).fine (t.cut k).1
/-- What comes of a split. -/
def Split (t' : TD) (h k : Nat) (ls : List ByteArray) (fp' : List Nat) (low : Nat) (o : Option Nat) : Prop :=
  (o = none ∧ Rep t' h k ls fp' ∧ low ≤ (t'.get k).size ∧ (t'.get k).size ≤ 8) ∨
  ∃ j ls1 ls2 fp1 fp2, o = some j ∧ Rep t' h k ls1 fp1 ∧ Rep t' h j ls2 fp2 ∧ ls = ls1 ++ ls2 ∧ fp' = fp1 ++ fp2 ∧ 4 ≤ (t'.get k).size ∧ (t'.get k).size ≤ 8 ∧ 4 ≤ (t'.get j).size ∧ (t'.get j).size ≤ 8
theorem cut_step {t : TD} {fp : List Nat} {k : Nat} (g : Good t fp) (hk : k ∈ fp) :
    Step t fp (t.cut k).2 ((t.cut k).1 :: fp) ∧ (t.cut k).2.nodes[(t.cut k).1]? = some (t.get k).high ∧ (t.cut k).2.nodes[k]? = some (t.get k).low ∧ (t.cut k).1 ∉ fp ∧ ∀ j, j ∈ fp → j ≠ k → (t.cut k).2.nodes[j]? = t.nodes[j]? := by
  have hkl : k < t.nodes.length := g.lt k (by simp [hk])
  have s1 := Step.put g hk (t.get k).low
  obtain ⟨s2, m1, m2, m3⟩ := Step.make s1.good (t.get k).high
  refine ⟨s1.trans s2, m1, ?_, m2, fun j hj hn => ?_⟩
  · show (TD.make (t.put k (t.get k).low) (t.get k).high).2.nodes[k]? = _
    rw [m3 k hk, put_self _ hkl]
  · show (TD.make (t.put k (t.get k).low) (t.get k).high).2.nodes[j]? = _
    rw [m3 j hj, put_other _ _ (fun e => hn e.symm)]
theorem split_spec {t : TD} {h k : Nat} {ls : List ByteArray} {fp : List Nat} (r : Rep t h k ls fp) (g : Good t fp) (hs : (t.get k).size ≤ 9) (hL : t.load + 1 ≤ 10000000) (hN : ls.length ≤ 1000000) :
    SafeSplit t k ∧ ∃ fp', Step t fp (t.split k).2 fp' ∧ Split (t.split k).2 h k ls fp' (t.get k).size (t.split k).1 := by
  unfold TD.split
  by_cases h8 : (t.get k).size ≤ 8
  · rw [if_pos h8]
    exact ⟨fun h => absurd h8 (by omega), fp, Step.refl g, .inl ⟨rfl, r, Nat.le_refl _, h8⟩⟩
  · rw [if_neg h8]
    have h9 : (t.get k).size = 9 := by omega
    have hcl := load_cut t k
    unfold SafeSplit
    have hkf := r.head.1
    obtain ⟨c1, c2, c3, c4, c5⟩ := cut_step g hkf
    obtain ⟨j, hj⟩ : ∃ j, (t.cut k).1 = j := ⟨_, rfl⟩
    obtain ⟨u, hu⟩ : ∃ u, (t.cut k).2 = u := ⟨_, rfl⟩
    simp only []
    rw [hj] at c1 c2 c4
    rw [hj]
    rw [hu] at c1 c2 c3 c5 hcl
    rw [hu]
    have hne : k ≠ j := fun e => c4 (e ▸ hkf)
    have st1 := Step.sum c1.good (k := k) (List.mem_cons_of_mem _ hkf)
    have st2 := Step.sum st1.good (k := j) (List.mem_cons_self)
    have st := (c1.trans st1).trans st2
    have zk : (((u.sum k).sum j).get k).size = (t.get k).low.size := by rw [get_same (sum_other _ (fun e => hne e.symm)), sum_size, get_of c3]
    have zj : (((u.sum k).sum j).get j).size = (t.get k).high.size := by rw [sum_size, get_same (sum_other _ hne), get_of c2]
    cases h with
    | zero =>
      obtain ⟨r1, r2⟩ := r
      have hlow : (t.get k).low = ⟨ls.take 4, [], ls.length⟩ := by
        rw [get_of r1] at h9 ⊢
        unfold ND.low
        rw [if_pos rfl, h9]
      have hhigh : (t.get k).high = ⟨ls.drop 4, [], 0⟩ := by
        rw [get_of r1] at h9 ⊢
        unfold ND.high
        rw [if_pos rfl, h9]
      rw [hlow] at c3
      rw [hhigh] at c2
      have hl9 : ls.length = 9 := by
        have := h9
        rw [get_of r1] at this
        simpa [ND.size] using this
      have q1 := sum_leaf c3
      have q2 : Rep ((u.sum k).sum j) 0 k (ls.take 4) [k] := q1.congr (fun i hi => by
        have : i = k := by simpa using hi
        rw [this]
        exact sum_other _ (fun e => hne e.symm))
      have q3 : Rep ((u.sum k).sum j) 0 j (ls.drop 4) [j] := sum_leaf (c := 0) (by rw [sum_other _ hne]; exact c2)
      refine ⟨fun _ => ⟨fine_leaf c3 c1.good (by simp; omega) (by omega), fine_leaf (c := 0) (ls := ls.drop 4) (by rw [sum_other _ hne]; exact c2) st1.good (by simp; omega) (by rw [load_sum]; omega)⟩, [k] ++ [j], st.perm (List.Perm.refl _) (by rw [r2]; exact (List.perm_append_singleton j [k]).symm), .inr ⟨j, ls.take 4, ls.drop 4, [k], [j], rfl, q2, q3, (List.take_append_drop 4 ls).symm, rfl, ?_⟩⟩
      rw [zk, zj, hlow, hhigh]
      simp [ND.size]
      omega
    | succ h =>
      obtain ⟨subs, r1, r2, r3, r4, r5⟩ := r
      have hlen : subs.length = 9 := by
        have := (kids_size r1).1
        omega
      have hk0 : (⟨[], kidsOf subs, ls.length⟩ : ND).kids ≠ [] := kidsOf_ne r4
      have hlow : (t.get k).low = ⟨[], kidsOf (subs.take 4), ls.length⟩ := by
        rw [get_of r1] at h9 ⊢
        unfold ND.low
        rw [if_neg hk0, h9]
        simp [kidsOf, List.map_take]
      have hhigh : (t.get k).high = ⟨[], kidsOf (subs.drop 4), 0⟩ := by
        rw [get_of r1] at h9 ⊢
        unfold ND.high
        rw [if_neg hk0, h9]
        simp [kidsOf, List.map_drop]
      rw [hlow] at c3
      rw [hhigh] at c2
      have hsplit : subs = subs.take 4 ++ subs.drop 4 := (List.take_append_drop 4 subs).symm
      have hnd : (k :: printOf subs).Nodup := by
        have := g.nod
        rw [r3] at this
        exact (List.nodup_append.1 this).1
      have hkn : k ∉ printOf subs := (List.nodup_cons.1 hnd).1
      have hps : printOf subs = printOf (subs.take 4) ++ printOf (subs.drop 4) := by rw [← printOf_app, ← hsplit]
      have hcu : Subs u h subs := Subs.congr r5 (fun i hi => c5 i (by rw [r3]; exact List.mem_cons_of_mem _ hi) (fun e => hkn (e ▸ hi)))
      rw [hsplit] at hcu
      rw [hps] at hkn
      rw [List.mem_append] at hkn
      have hjn : j ∉ printOf (subs.take 4) ∧ j ∉ printOf (subs.drop 4) := by
        rw [r3, hps] at c4
        exact ⟨fun e => c4 (by simp [e]), fun e => c4 (by simp [e])⟩
      have hkn1 : k ∉ printOf (subs.take 4) := fun e => hkn (.inl e)
      have q1 := sum_node c3 hcu.left (fun e => by have h7 := congrArg List.length e; rw [List.length_take, List.length_nil] at h7; omega) hkn1
      have q2 : Rep ((u.sum k).sum j) (h + 1) k _ _ := q1.congr (t' := (u.sum k).sum j) (fun i hi => by
        refine sum_other _ (fun e => ?_)
        subst e
        rcases List.mem_cons.1 hi with e | e
        · exact hne e.symm
        · exact hjn.1 e)
      have c2' : (u.sum k).nodes[j]? = some ⟨[], kidsOf (subs.drop 4), 0⟩ := by rw [sum_other _ hne]; exact c2
      have q3 := sum_node c2' (hcu.right.congr (fun i hi => sum_other _ (fun e => hkn (.inr (e ▸ hi))))) (fun e => by have h7 := congrArg List.length e; rw [List.length_drop, List.length_nil] at h7; omega) hjn.2
      have q4 : Rep ((u.sum k).sum j) (h + 1) j _ _ := q3
      have hnl : (linesOf (subs.take 4)).length + (linesOf (subs.drop 4)).length ≤ 1000000 := by rw [← List.length_append, ← linesOf_app, ← hsplit, ← r2]; exact hN
      refine ⟨fun _ => ⟨fine_node c3 hcu.left hkn1 c1.good (by simp; omega) (by omega) (by omega), fine_node c2' (hcu.right.congr (fun i hi => sum_other _ (fun e => hkn (.inr (e ▸ hi))))) hjn.2 st1.good (by simp; omega) (by omega) (by rw [load_sum]; omega)⟩, (k :: printOf (subs.take 4)) ++ (j :: printOf (subs.drop 4)), st.perm (List.Perm.refl _) ?_, .inr ⟨j, _, _, _, _, rfl, q2, q4, by rw [r2, ← linesOf_app, ← hsplit], rfl, ?_⟩⟩
      · rw [r3, hps]
        exact (List.perm_middle (l₁ := k :: printOf (subs.take 4)) (l₂ := printOf (subs.drop 4)) (a := j)).symm
      · rw [zk, zj, hlow, hhigh]
        simp [ND.size, kidsOf_len]
        omega
end Go.Proofs.Ytmklapbecdhnmaa
namespace Go.Proofs.Ytmklapbecdhnmaa
theorem Split.mono {t' : TD} {h k : Nat} {ls : List ByteArray} {fp' : List Nat} {a b : Nat} {o : Option Nat} (s : Split t' h k ls fp' a o) (hb : b ≤ a) : Split t' h k ls fp' b o := by
  rcases s with ⟨h1, h2, h3, h4⟩ | h
  · exact .inl ⟨h1, h2, Nat.le_trans hb h3, h4⟩
  · exact .inr h
theorem Good.nodup {t : TD} {fp : List Nat} (g : Good t fp) : fp.Nodup := (List.nodup_append.1 g.nod).1
theorem print_mid (k : Nat) (pre : List Sub) (s : Sub) (post : List Sub) : (k :: printOf (pre ++ s :: post)).Perm ((k :: (printOf pre ++ printOf post)) ++ s.fp) := by
  rw [printOf_app, printOf_cons, List.cons_append]
  refine List.Perm.cons _ ?_
  rw [List.append_assoc]
  exact List.Perm.append_left _ List.perm_append_comm
def SafeEnd (t : TD) (k : Nat) : Prop := t.fine k ∧ SafeSplit (t.sum k) k
/-- What holds wherever a call puts something in. -/
def SafeIns (line : ByteArray) : Nat → TD → Nat → Nat → Prop
  | 0, _, _, _ => False
  | f + 1, t, k, i => t.fine k ∧ ((t.get k).kids = [] → i ≤ (t.get k).lines.length ∧ SafeEnd (t.put k { t.get k with lines := insL (t.get k).lines i line }) k) ∧
    ((t.get k).kids ≠ [] → (t.find (t.get k).kids 0 i).1 < (t.get k).kids.length ∧ SafeIns line f t ((t.get k).kids.getD (t.find (t.get k).kids 0 i).1 0) (t.find (t.get k).kids 0 i).2 ∧
      ∀ o s, TD.ins line f t ((t.get k).kids.getD (t.find (t.get k).kids 0 i).1 0) (t.find (t.get k).kids 0 i).2 = some (o, s) → s.fine k ∧ (s.get k).kids.length = (t.get k).kids.length ∧ SafeEnd (s.hang k (t.find (t.get k).kids 0 i).1 o) k)
theorem node_end {t : TD} {h k c : Nat} {subs : List Sub} {F : List Nat} (hk : t.nodes[k]? = some ⟨[], kidsOf subs, c⟩) (hs : Subs t h subs) (hne : subs ≠ []) (g : Good t F) (p : F.Perm (k :: printOf subs)) (hl : subs.length ≤ 9) (hL : t.load + 1 ≤ 10000000) (hN : (linesOf subs).length ≤ 1000000) :
    SafeEnd t k ∧ ∃ fp', Step t F ((t.sum k).split k).2 fp' ∧ Split ((t.sum k).split k).2 (h + 1) k (linesOf subs) fp' subs.length ((t.sum k).split k).1 := by
  have g2 := g.perm p
  have hd : k ∉ printOf subs := (List.nodup_cons.1 g2.nodup).1
  have r := sum_node hk hs hne hd
  have st := Step.sum g2 (k := k) List.mem_cons_self
  have hz : ((t.sum k).get k).size = subs.length := by rw [sum_size, (kids_size hk).1]
  obtain ⟨s0, fp', s1, s2⟩ := split_spec r st.good (by omega) (by rw [load_sum]; exact hL) hN
  rw [hz] at s2
  exact ⟨⟨fine_node hk hs hd g2 (by omega) hN (by omega), s0⟩, fp', (st.trans s1).perm p.symm (List.Perm.refl _), s2⟩
theorem Step.keeps {t t' : TD} {R fp fp' : List Nat} (s : Step t fp t' fp') (g : Good t (R ++ fp)) : ∀ j ∈ R, t'.nodes[j]? = t.nodes[j]? := fun j hj => by
  have hn := g.nod
  rw [List.append_assoc] at hn
  have hd := (List.nodup_append.1 hn).2.2 j hj
  exact s.same j (g.lt j (by simp [hj])) (fun m => hd j (List.mem_append.2 (.inl m)) rfl) (fun m => hd j (List.mem_append.2 (.inr m)) rfl)
/-- A kid has turned into one, or two. -/
theorem ins_spec (line : ByteArray) : ∀ (h : Nat) (t : TD) (k : Nat) (ls : List ByteArray) (fp : List Nat) (i : Nat), Rep t h k ls fp → Good t fp → i ≤ ls.length → (t.get k).size ≤ 8 → t.load + (h + 1) ≤ 10000000 → ls.length + 1 ≤ 1000000 →
    SafeIns line (h + 1) t k i ∧ ∃ o t' fp', TD.ins line (h + 1) t k i = some (o, t') ∧ Step t fp t' fp' ∧ Split t' h k (insL ls i line) fp' (t.get k).size o
  | 0, t, k, ls, fp, i, r, g, hi, hs, hL, hN => by
    obtain ⟨r1, rfl⟩ := r
    have hg := get_of r1
    have hkl := lt_of_node r1
    have s1 := Step.put g (k := k) (by simp) ⟨insL ls i line, [], ls.length⟩
    have r2 := sum_leaf (put_self (t := t) ⟨insL ls i line, [], ls.length⟩ hkl)
    have s2 := Step.sum s1.good (k := k) (by simp)
    have hz : (((t.put k ⟨insL ls i line, [], ls.length⟩).sum k).get k).size = (t.get k).size + 1 := by
      rw [get_of r2.1, hg]
      simp [ND.size, insL_len]
    have hln : ls.length ≤ 8 := by rw [hg] at hs; simpa [ND.size] using hs
    obtain ⟨s0, fp', s3, s4⟩ := split_spec r2 s2.good (by omega) (by rw [load_sum, load_put]; omega) (by rw [insL_len]; omega)
    refine ⟨⟨fine_leaf r1 g (by omega) (by omega), fun _ => ?_, fun h => absurd (by rw [hg]) h⟩, _, _, fp', ?_, (s1.trans s2).trans s3, s4.mono (by omega)⟩
    · rw [hg]
      exact ⟨hi, fine_leaf (put_self (t := t) ⟨insL ls i line, [], ls.length⟩ hkl) s1.good (by rw [insL_len]; omega) (by rw [load_put]; omega), s0⟩
    · unfold TD.ins
      rw [hg, if_pos rfl]
  | h + 1, t, k, ls, fp, i, ⟨subs, r1, r2, r3, r4, r5⟩, g, hi, hs, hL, hN => by
    subst r2 r3
    have hg := kids_size r1
    obtain ⟨pre, s, post, e1, e2, e3, e4, _⟩ := find_spec subs 0 i r4 (fun s hm => (r5 s hm).1.head.2.2) hi
    rw [Nat.zero_add] at e2
    have g2 := g.perm (e1 ▸ print_mid k pre s post)
    have hsm : s ∈ subs := by rw [e1]; simp
    obtain ⟨a1, a2, a3⟩ := r5 s hsm
    have hsl : s.ls.length ≤ (linesOf subs).length := by
      rw [e1, linesOf_app, linesOf_cons, List.length_append, List.length_append]
      omega
    obtain ⟨b0, o, t1, fp1, b1, b2, b3⟩ := ins_spec line h t s.k s.ls s.fp (i - (linesOf pre).length) a1 g2.sub (by omega) a3 (by omega) (by omega)
    have hl1 := load_ins line _ _ _ _ _ _ b1
    have hk0 : k ∉ printOf subs := (List.nodup_cons.1 g.nodup).1
    have hll0 : (insL (linesOf subs) i line).length = (linesOf subs).length + 1 := insL_len _ _ _
    have hfk := fine_node r1 r5 hk0 g (by have := hg.1; omega) (by omega) (by omega)
    have hfind : (t.find (t.get k).kids 0 i) = (pre.length, i - (linesOf pre).length) := by rw [hg.2]; exact e2
    have hkid : (t.get k).kids.getD pre.length 0 = s.k := by rw [hg.2, e1]; exact kid_at _ _ _
    have hsafe : SafeEnd (t1.hang k pre.length o) k → t1.fine k → (t1.get k).kids.length = (t.get k).kids.length → SafeIns line (h + 1 + 1) t k i := fun q q2 q3 => by
      refine ⟨hfk, fun e => absurd (hg.2.symm.trans e) (kidsOf_ne r4), fun _ => ?_⟩
      rw [hfind]
      simp only []
      rw [hkid]
      refine ⟨by rw [hg.2, kidsOf_len, e1]; simp, b0, fun o2 s2 h2 => ?_⟩
      rw [b1] at h2
      injection h2 with h2
      injection h2 with h3 h4
      subst h3 h4
      exact ⟨q2, q3, q⟩
    have fr := b2.frame _ g2
    have keep := b2.keeps g2
    have k1 : t1.nodes[k]? = some ⟨[], kidsOf subs, (linesOf subs).length⟩ := by rw [keep k List.mem_cons_self]; exact r1
    have hsub : Subs t h (pre ++ s :: post) := e1 ▸ r5
    have hpre : Subs t1 h pre := hsub.left.congr (fun j hj => keep j (by simp [hj]))
    have hpost : Subs t1 h post := Subs.congr (fun x hx => hsub.right x (List.mem_cons_of_mem _ hx)) (fun j hj => keep j (by simp [hj]))
    have hfun : TD.ins line (h + 1 + 1) t k i = some (((t1.hang k pre.length o).sum k).split k) := by
      rw [TD.ins]
      rw [hg.2, if_neg (kidsOf_ne r4), e2, e1, kid_at]
      simp only []
      rw [b1]
    have hlen : subs.length = (t.get k).size := hg.1.symm
    have hkl1 : (t1.get k).kids.length = (t.get k).kids.length := by rw [get_of k1, hg.2]
    have hll : insL (linesOf subs) i line = linesOf pre ++ (insL s.ls (i - (linesOf pre).length) line ++ linesOf post) := by
      rw [e1, linesOf_app, linesOf_cons]
      exact insL_mid _ _ _ _ _ e3 (by omega)
    have hp0 : ∀ x : List Nat, ((k :: (printOf pre ++ printOf post)) ++ x).Perm (k :: (printOf pre ++ (x ++ printOf post))) := fun x => by
      rw [List.cons_append]
      refine List.Perm.cons _ ?_
      rw [List.append_assoc]
      exact List.Perm.append_left _ List.perm_append_comm
    rcases b3 with ⟨rfl, c1, c2, c3⟩ | ⟨j, ls1, ls2, fpa, fpb, rfl, c1, c2, c3, c4, c5, c6, c7, c8⟩
    · have hsubs : Subs t1 h (pre ++ (⟨s.k, insL s.ls (i - (linesOf pre).length) line, fp1⟩ : Sub) :: post) := hpre.app (fun x hx => by
        rcases List.mem_cons.1 hx with rfl | hx
        · exact ⟨c1, Nat.le_trans a2 c2, c3⟩
        · exact hpost x hx)
      have hkk : kidsOf subs = kidsOf (pre ++ (⟨s.k, insL s.ls (i - (linesOf pre).length) line, fp1⟩ : Sub) :: post) := by rw [e1, kidsOf_app, kidsOf_app, kidsOf_cons, kidsOf_cons]
      rw [hkk] at k1
      have hlen2 : (pre ++ (⟨s.k, insL s.ls (i - (linesOf pre).length) line, fp1⟩ : Sub) :: post).length = subs.length := by rw [e1]; simp
      have hlnew : (linesOf (pre ++ (⟨s.k, insL s.ls (i - (linesOf pre).length) line, fp1⟩ : Sub) :: post)).length ≤ 1000000 := by
        rw [linesOf_app, linesOf_cons, ← hll]
        omega
      obtain ⟨d0, fp', d1, d2⟩ := node_end k1 hsubs (by simp) fr.good (by rw [printOf_app, printOf_cons]; exact hp0 fp1) (by omega) (by omega) hlnew
      refine ⟨hsafe d0 d0.1 hkl1, _, _, fp', hfun, (fr.trans d1).perm (print_mid k pre s post |>.symm.trans (by rw [e1])) (List.Perm.refl _), ?_⟩
      rw [hll, ← hlen, ← hlen2]
      rw [linesOf_app, linesOf_cons] at d2
      exact d2
    · have hkk : insL (kidsOf subs) (pre.length + 1) j = kidsOf (pre ++ (⟨s.k, ls1, fpa⟩ : Sub) :: (⟨j, ls2, fpb⟩ : Sub) :: post) := by
        rw [e1, kidsOf_app, kidsOf_cons, kidsOf_app, kidsOf_cons, kidsOf_cons, ← kidsOf_len pre]
        exact insL_next _ _ _ _
      have st := Step.put fr.good (k := k) (by simp) (⟨[], insL (kidsOf subs) (pre.length + 1) j, (linesOf subs).length⟩ : ND)
      have hhang : t1.hang k pre.length (some j) = t1.put k ⟨[], insL (kidsOf subs) (pre.length + 1) j, (linesOf subs).length⟩ := by
        show t1.put k { t1.get k with kids := insL (t1.get k).kids (pre.length + 1) j } = _
        rw [get_of k1]
      rw [hhang] at hfun
      have hnd := fr.good.nodup
      rw [List.cons_append, List.nodup_cons] at hnd
      have hnk : ∀ x, x ∈ (printOf pre ++ printOf post) ++ fp1 → k ≠ x := fun x hx e => hnd.1 (e ▸ hx)
      have hsubs : Subs (t1.put k ⟨[], insL (kidsOf subs) (pre.length + 1) j, (linesOf subs).length⟩) h (pre ++ (⟨s.k, ls1, fpa⟩ : Sub) :: (⟨j, ls2, fpb⟩ : Sub) :: post) := by
        have base : Subs t1 h (pre ++ (⟨s.k, ls1, fpa⟩ : Sub) :: (⟨j, ls2, fpb⟩ : Sub) :: post) := hpre.app (fun x hx => by
          rcases List.mem_cons.1 hx with rfl | hx
          · exact ⟨c1, c5, c6⟩
          · rcases List.mem_cons.1 hx with rfl | hx
            · exact ⟨c2, c7, c8⟩
            · exact hpost x hx)
        refine base.congr (fun x hx => put_other _ _ (hnk x ?_))
        rw [printOf_app, printOf_cons, printOf_cons] at hx
        rw [c4]
        simp only [List.mem_append] at hx ⊢
        rcases hx with h | h | h | h <;> simp [h]
      have k2 := put_self (t := t1) (⟨[], insL (kidsOf subs) (pre.length + 1) j, (linesOf subs).length⟩ : ND) (lt_of_node k1)
      rw [hkk] at k2
      rw [hkk] at hsubs st hfun
      have hlen2 : (pre ++ (⟨s.k, ls1, fpa⟩ : Sub) :: (⟨j, ls2, fpb⟩ : Sub) :: post).length = subs.length + 1 := by rw [e1]; simp; omega
      have hlnew : (linesOf (pre ++ (⟨s.k, ls1, fpa⟩ : Sub) :: (⟨j, ls2, fpb⟩ : Sub) :: post)).length ≤ 1000000 := by
        rw [linesOf_app, linesOf_cons, linesOf_cons, ← List.append_assoc ls1, ← c3, ← hll]
        omega
      obtain ⟨d0, fp', d1, d2⟩ := node_end k2 hsubs (by simp) st.good (by rw [printOf_app, printOf_cons, printOf_cons, c4, ← List.append_assoc fpa]; exact hp0 (fpa ++ fpb)) (by omega) (by rw [load_put]; omega) hlnew
      have hsub1 : Subs t1 h (pre ++ (⟨s.k, ls1, fpa⟩ : Sub) :: post) := hpre.app (fun x hx => by
        rcases List.mem_cons.1 hx with rfl | hx
        · exact ⟨c1, c5, c6⟩
        · exact hpost x hx)
      have hkk1 : kidsOf subs = kidsOf (pre ++ (⟨s.k, ls1, fpa⟩ : Sub) :: post) := by rw [e1, kidsOf_app, kidsOf_app, kidsOf_cons, kidsOf_cons]
      have k3 := k1
      rw [hkk1] at k3
      have hn3 : (linesOf (pre ++ (⟨s.k, ls1, fpa⟩ : Sub) :: post)).length ≤ 1000000 := by
        rw [linesOf_app, linesOf_cons, linesOf_cons] at hlnew
        rw [linesOf_app, linesOf_cons]
        simp only [List.length_append] at hlnew ⊢
        omega
      have hfk1 : t1.fine k := fine_node k3 hsub1 (fun hx => hnk k (by
        rw [printOf_app, printOf_cons] at hx
        rw [c4]
        simp only [List.mem_append] at hx ⊢
        rcases hx with h | h | h <;> simp [h]) rfl) fr.good (by rw [e1] at hlen; simp at hlen ⊢; omega) hn3 (by omega)
      refine ⟨hsafe (by rw [hhang, hkk]; exact d0) hfk1 hkl1, _, _, fp', hfun, ((fr.trans st).trans d1).perm (print_mid k pre s post |>.symm.trans (by rw [e1])) (List.Perm.refl _), ?_⟩
      rw [hll, ← hlen]
      rw [linesOf_app, linesOf_cons, linesOf_cons] at d2
      rw [c3, List.append_assoc]
      exact d2.mono (by omega)
end Go.Proofs.Ytmklapbecdhnmaa
