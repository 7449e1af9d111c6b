/- Lemmas that the law's proof stands on, part 6: Tk. No condition. -/
import Derived.Test.YtmklapbecdhnmaaBaseA0
import Derived.Test.YtmklapbecdhnmaaBaseA5
set_option linter.all false
set_option linter.unusedVariables false
set_option linter.unusedSimpArgs false
namespace Go.Proofs.Ytmklapbecdhnmaa
def sizes (ls : List ByteArray) : Int := (ls.map fun s => (s.size : Int)).sum
theorem sizes_app (a b : List ByteArray) : sizes (a ++ b) = sizes a + sizes b := by simp [sizes]
theorem sizes_cons (a : ByteArray) (b : List ByteArray) : sizes (a :: b) = a.size + sizes b := by simp [sizes]
theorem sizes_ins (ls : List ByteArray) (i : Nat) (x : ByteArray) : sizes (insL ls i x) = sizes ls + x.size := by
  unfold insL
  rw [sizes_app, sizes_cons, show sizes ls = sizes (ls.take i ++ ls.drop i) by rw [List.take_append_drop], sizes_app]
  omega
theorem sizes_mid (ls : List ByteArray) (i : Nat) (h : i < ls.length) : sizes ls = sizes (ls.take i) + ((ls.getD i ⟨#[]⟩).size + sizes (ls.drop (i + 1))) := by
  rw [show sizes ls = sizes (ls.take i ++ ls.drop i) by rw [List.take_append_drop], sizes_app, List.drop_eq_getElem_cons h, sizes_cons, List.getD_eq_getElem?_getD, List.getElem?_eq_getElem h]
  rfl
theorem sizes_del (ls : List ByteArray) (i : Nat) (h : i < ls.length) : sizes (delL ls i) = sizes ls - (ls.getD i ⟨#[]⟩).size := by
  unfold delL
  rw [sizes_app, sizes_mid ls i h]
  omega
theorem set_eq (ls : List ByteArray) (i : Nat) (x : ByteArray) (h : i < ls.length) : ls.set i x = ls.take i ++ x :: ls.drop (i + 1) := List.set_eq_take_append_cons_drop.trans (if_pos h)
theorem sizes_set (ls : List ByteArray) (i : Nat) (x : ByteArray) (h : i < ls.length) : sizes (ls.set i x) = sizes ls + (x.size - (ls.getD i ⟨#[]⟩).size) := by
  rw [set_eq ls i x h, sizes_app, sizes_cons, sizes_mid ls i h]
  omega
/-- A tree of these lines, so high. -/
structure Inv (t : TD) (h : Nat) (ls : List ByteArray) : Prop where
  rep : ∃ fp, Rep t h t.root ls fp ∧ Good t fp
  le : (t.get t.root).size ≤ 8
  two : h ≠ 0 → 2 ≤ (t.get t.root).size
  bytes : t.bytes = sizes ls
theorem Inv.len {t : TD} {h : Nat} {ls : List ByteArray} (v : Inv t h ls) : t.len = ls.length := by
  obtain ⟨fp, r, _⟩ := v.rep
  exact r.head.2.2
def TD.new : TD := ⟨[.zero], [], 0, 0⟩
theorem Inv.new : Inv .new 0 [] := ⟨⟨[0], ⟨rfl, rfl⟩, ⟨by decide, by decide⟩⟩, by decide, fun h => absurd rfl h, rfl⟩
theorem Good.root {t : TD} {fp : List Nat} (g : Good t fp) (r : Nat) (b : Int) : Good { t with root := r, bytes := b } fp := ⟨g.nod, g.lt⟩
theorem Rep.root {t : TD} (r : Nat) (b : Int) {h k : Nat} {ls : List ByteArray} {fp : List Nat} (x : Rep t h k ls fp) : Rep { t with root := r, bytes := b } h k ls fp := x.congr (fun _ _ => rfl)
def SafeTop (s : TD) (o : Option Nat) : Prop := (∀ x ∈ s.free, x < s.nodes.length) ∧ s.load + 1 ≤ 10000000 ∧ ∀ j, o = some j → ({ (s.make ⟨[], [s.root, j], 0⟩).2 with root := (s.make ⟨[], [s.root, j], 0⟩).1 } : TD).fine (s.make ⟨[], [s.root, j], 0⟩).1
theorem Split.rep {t : TD} {h k : Nat} {ls : List ByteArray} {fp : List Nat} {low : Nat} {o : Option Nat} (x : Split t h k ls fp low o) (g : Good t fp) (hr : t.root = k) (h2 : h ≠ 0 → 2 ≤ low) (hL : t.load + 1 ≤ 10000000) (hN : ls.length ≤ 1000000) :
    SafeTop t o ∧ ∃ h' fp', Rep (t.top o) h' (t.top o).root ls fp' ∧ Good (t.top o) fp' ∧ ((t.top o).get (t.top o).root).size ≤ 8 ∧ (h' ≠ 0 → 2 ≤ ((t.top o).get (t.top o).root).size) ∧ (t.top o).bytes = t.bytes := by
  rcases x with ⟨rfl, c1, c2, c3⟩ | ⟨j, ls1, ls2, fpa, fpb, rfl, c1, c2, rfl, rfl, c5, c6, c7, c8⟩
  · subst hr
    exact ⟨⟨fun x hx => g.lt x (by simp [hx]), hL, fun j hj => by cases hj⟩, h, fp, c1, g, c3, fun e => by have := h2 e; show 2 ≤ (t.get t.root).size; omega, rfl⟩
  · subst hr
    obtain ⟨m1, m2, m3, m4⟩ := Step.make g (⟨[], [t.root, j], 0⟩ : ND)
    have hb : (t.make ⟨[], [t.root, j], 0⟩).2.bytes = t.bytes := m1.bytes
    have hlm := load_make t (⟨[], [t.root, j], 0⟩ : ND)
    have hfl := g.lt
    unfold TD.top SafeTop
    obtain ⟨n, hn⟩ : ∃ n, (t.make ⟨[], [t.root, j], 0⟩).1 = n := ⟨_, rfl⟩
    obtain ⟨u, hu⟩ : ∃ u, (t.make ⟨[], [t.root, j], 0⟩).2 = u := ⟨_, rfl⟩
    simp only []
    rw [hn, hu] at m1 m2
    rw [hn] at m3
    rw [hu] at m4 hb hlm
    refine (fun (q : _ ∧ _) => ⟨⟨fun x hx => hfl x (by simp [hx]), hL, fun j2 hj2 => by
      injection hj2 with hj2
      subst hj2
      rw [hn, hu]
      exact q.1⟩, q.2⟩) ?_
    rw [hn, hu]
    have hs : Subs { u with root := n } h [⟨t.root, ls1, fpa⟩, ⟨j, ls2, fpb⟩] := by
      have base : Subs t h [⟨t.root, ls1, fpa⟩, ⟨j, ls2, fpb⟩] := fun s hs => by
        rcases List.mem_cons.1 hs with rfl | hs
        · exact ⟨c1, c5, c6⟩
        · have : s = ⟨j, ls2, fpb⟩ := by simpa using hs
          rw [this]
          exact ⟨c2, c7, c8⟩
      refine base.congr (fun x hx => m4 x ?_)
      simpa [printOf] using hx
    have hpr : printOf [(⟨t.root, ls1, fpa⟩ : Sub), ⟨j, ls2, fpb⟩] = fpa ++ fpb := by simp [printOf]
    have q := sum_node (t := { u with root := n }) (k := n) (c := 0) (subs := [⟨t.root, ls1, fpa⟩, ⟨j, ls2, fpb⟩]) m2 hs (by simp) (by rw [hpr]; exact m3)
    have gu : Good ({ u with root := n } : TD) (n :: (fpa ++ fpb)) := ⟨m1.nod, m1.lt⟩
    have st := Step.sum gu (k := n) List.mem_cons_self
    rw [hpr, show linesOf [(⟨t.root, ls1, fpa⟩ : Sub), ⟨j, ls2, fpb⟩] = ls1 ++ ls2 by simp [linesOf]] at q
    have hz : ((({ u with root := n } : TD).sum n).get n).size = 2 := by
      rw [sum_size, get_of (show ({ u with root := n } : TD).nodes[n]? = _ from m2)]
      rfl
    have hfine : ({ u with root := n } : TD).fine n := fine_node (t := { u with root := n }) (c := 0) (subs := [⟨t.root, ls1, fpa⟩, ⟨j, ls2, fpb⟩]) m2 hs (by rw [hpr]; exact m3) gu (by simp) (by simp [linesOf]; simp at hN; omega) (by show u.load ≤ _; omega)
    exact ⟨hfine, h + 1, _, q, st.good, by show ((({ u with root := n } : TD).sum n).get n).size ≤ 8; omega, fun _ => by show 2 ≤ ((({ u with root := n } : TD).sum n).get n).size; omega, hb⟩
theorem insert_inv {t : TD} {h : Nat} {ls : List ByteArray} (v : Inv t h ls) (hL : t.load + (h + 2) ≤ 10000000) (hN : ls.length + 1 ≤ 1000000) (i : Int) (line : ByteArray) :
    (i < 0 ∨ (ls.length : Int) < i → t.insert (h + 1) i line = some (false, t)) ∧
    (¬ (i < 0 ∨ (ls.length : Int) < i) → SafeIns line (h + 1) t t.root i.toNat ∧ (∀ o s, TD.ins line (h + 1) t t.root i.toNat = some (o, s) → s.root = t.root ∧ s.bytes = t.bytes ∧ SafeTop s o) ∧ ∃ t' h', t.insert (h + 1) i line = some (true, t') ∧ Inv t' h' (insL ls i.toNat line) ∧ t'.load ≤ t.load + (h + 2)) := by
  unfold TD.insert
  rw [v.len]
  refine ⟨fun e => by rw [if_pos e], fun e => ?_⟩
  rw [if_neg e]
  obtain ⟨fp, r, g⟩ := v.rep
  obtain ⟨a0, o, t', fp', a1, a2, a3⟩ := ins_spec line h t t.root ls fp i.toNat r g (by omega) v.le (by omega) hN
  have hl1 := load_ins line _ _ _ _ _ _ a1
  rw [a1]
  obtain ⟨b0, h', fp2, b1, b2, b3, b4, b5⟩ := a3.rep a2.good a2.root v.two (by omega) (by rw [insL_len]; exact hN)
  have hl2 : (t'.top o).load ≤ t'.load + 1 := by
    cases o with
    | none => exact Nat.le_succ _
    | some j =>
      show (TD.sum _ _).load ≤ _
      rw [load_sum]
      exact load_make t' _
  refine ⟨a0, fun o2 s2 h2 => ?_, _, h', rfl, ⟨⟨fp2, b1.root _ _, b2.root _ _⟩, b3, b4, ?_⟩, by show (t'.top o).load ≤ _; omega⟩
  · injection h2 with h2
    injection h2 with h3 h4
    subst h3 h4
    exact ⟨a2.root, a2.bytes, b0⟩
  show (t'.top o).bytes + line.size = _
  rw [b5, a2.bytes, v.bytes, sizes_ins]
theorem delete_inv {t : TD} {h : Nat} {ls : List ByteArray} (v : Inv t h ls) (hL : t.load + (h + 2) ≤ 10000000) (hN : ls.length ≤ 1000000) (i : Int) :
    (i < 0 ∨ (ls.length : Int) ≤ i → t.delete (h + 1) i = some (false, t)) ∧
    (¬ (i < 0 ∨ (ls.length : Int) ≤ i) → SafeRem (h + 1) t t.root i.toNat ∧ (∀ x s, TD.rem (h + 1) t t.root i.toNat = some (x, s) → s.root = t.root ∧ s.bytes = t.bytes ∧ x = ls.getD i.toNat ⟨#[]⟩ ∧ s.root < s.nodes.length ∧ (s.get s.root).kids.length ≤ 100 ∧ s.load + 1 ≤ 10000000) ∧ ∃ t' h', t.delete (h + 1) i = some (true, t') ∧ Inv t' h' (delL ls i.toNat) ∧ t'.load ≤ t.load + (h + 2)) := by
  unfold TD.delete
  rw [v.len]
  refine ⟨fun e => by rw [if_pos e], fun e => ?_⟩
  rw [if_neg e]
  obtain ⟨fp, r, g⟩ := v.rep
  obtain ⟨a0, t', fp', a1, a2, a3, a4, a5⟩ := rem_spec h t t.root ls fp i.toNat r g (by omega) v.le v.two (by omega) hN
  have hl1 := load_rem _ _ _ _ _ _ a1
  have hkids : (t'.get t'.root).kids.length ≤ 100 := by rw [a2.root]; have := v.le; have : (t'.get t.root).size = (t'.get t.root).lines.length + (t'.get t.root).kids.length := rfl; omega
  refine ⟨a0, fun x2 s2 h2 => ?_, ?_⟩
  · rw [a1] at h2
    injection h2 with h2
    injection h2 with h3 h4
    subst h3 h4
    exact ⟨a2.root, a2.bytes, rfl, by rw [a2.root]; exact a3.head.2.1, hkids, by omega⟩
  rw [a1]
  simp only []
  obtain ⟨u, hu⟩ : ∃ u : TD, ({ t' with bytes := t'.bytes - (ls.getD i.toNat ⟨#[]⟩).size } : TD) = u := ⟨_, rfl⟩
  have ub : u.bytes = sizes (delL ls i.toNat) := by
    rw [sizes_del ls i.toNat (by omega), ← v.bytes, ← a2.bytes, ← hu]
  have un : ∀ j : Nat, u.nodes[j]? = t'.nodes[j]? := fun j => by rw [← hu]
  have ur : u.root = t.root := by rw [← hu]; exact a2.root
  have ug : Good u fp' := by rw [← hu]; exact ⟨a2.nod, a2.lt⟩
  have uR : Rep u h t.root (delL ls i.toNat) fp' := a3.congr (fun j _ => un j)
  have uz : (u.get t.root).size = (t'.get t.root).size := by rw [get_same (un _)]
  have hv8 := v.le
  have hul : u.load ≤ t.load + (h + 1) := by rw [← hu]; exact hl1
  rw [hu]
  unfold TD.low
  rw [ur]
  cases h with
  | zero =>
    obtain ⟨e1, e2⟩ := uR
    rw [get_of e1]
    exact ⟨u, 0, rfl, ⟨⟨fp', by rw [ur]; exact ⟨e1, e2⟩, ug⟩, by rw [ur]; omega, fun e => absurd rfl e, ub⟩, by omega⟩
  | succ h =>
    have hR := uR
    obtain ⟨subs, e1, e2, e3, e4, e5⟩ := uR
    rw [get_of e1]
    match subs, e1, e2, e3, e4, e5 with
    | [], _, _, _, e4, _ => exact absurd rfl e4
    | [s], e1, e2, e3, _, e5 =>
      have hs := e5 s (by simp)
      have e3' : fp' = t.root :: s.fp := by rw [e3]; simp [printOf]
      have e2' : delL ls i.toNat = s.ls := by rw [e2]; simp [linesOf]
      rw [e3'] at ug
      have hnd := (List.nodup_cons.1 ug.nodup).1
      have sd := Step.drop ug
      have hk : ∀ j ∈ s.fp, (u.drop t.root).nodes[j]? = u.nodes[j]? := fun j hj => List.getElem?_set_ne (fun e => hnd (by rw [show t.root = j from e]; exact hj))
      have hsz : ((u.drop t.root).get s.k).size = (u.get s.k).size := by rw [get_same (hk s.k hs.1.head.1)]
      refine ⟨{ u.drop t.root with root := s.k }, h, rfl, ⟨⟨s.fp, ?_, ⟨sd.nod, sd.lt⟩⟩, ?_, fun _ => ?_, ub⟩, by show (u.drop t.root).load ≤ _; rw [load_drop]; omega⟩
      · rw [e2']
        exact Rep.congr hs.1 hk
      · show ((u.drop t.root).get s.k).size ≤ 8
        omega
      · show 2 ≤ ((u.drop t.root).get s.k).size
        omega
    | a :: b :: r, e1, e2, e3, _, e5 =>
      refine ⟨u, h + 1, rfl, ⟨⟨fp', by rw [ur]; exact hR, ug⟩, by rw [ur]; omega, fun _ => ?_, ub⟩, by omega⟩
      rw [ur, (kids_size e1).1]
      simp
theorem rep_fine {t : TD} {h k : Nat} {ls : List ByteArray} {fp : List Nat} (r : Rep t h k ls fp) (hnd : fp.Nodup) (hf : ∀ j ∈ t.free, j < t.nodes.length) (hL : t.load ≤ 10000000) (hN : ls.length ≤ 1000000) (hs : (t.get k).size ≤ 8) : t.fine k := by
  cases h with
  | zero =>
    obtain ⟨r1, rfl⟩ := r
    have e := get_of r1
    rw [e] at hs
    simp [ND.size] at hs
    refine ⟨lt_of_node r1, by rw [e]; show ls.length ≤ 100; omega, by rw [e]; simp, fun j hj => ?_, ?_, hf, hL, fun h => absurd (by rw [e]) h⟩
    · rw [e] at hj; cases hj
    · rw [e]
      show ls.length + 0 ≤ _
      omega
  | succ h =>
    obtain ⟨subs, r1, r2, r3, r4, r5⟩ := r
    have hk := kids_size r1
    have hd : k ∉ printOf subs := by rw [r3] at hnd; exact (List.nodup_cons.1 hnd).1
    have e := get_of r1
    refine ⟨lt_of_node r1, by rw [e]; simp, by rw [e]; simp [kidsOf_len]; omega, fun j hj => ?_, ?_, hf, hL, fun _ => by rw [e]⟩
    · rw [e] at hj
      obtain ⟨s, hm, rfl⟩ := List.mem_map.1 hj
      have := (r5 s hm).1.head
      exact ⟨this.2.1, fun e => hd (e ▸ List.mem_flatMap.2 ⟨s, hm, this.1⟩)⟩
    · rw [e]
      show 0 + t.counts (kidsOf subs) ≤ _
      rw [Subs.counts r5, ← r2]
      omega
def SafeAt (t : TD) : Nat → Nat → Nat → Prop
  | 0, _, _ => False
  | f + 1, k, i => t.fine k ∧ ((t.get k).kids ≠ [] → (t.find (t.get k).kids 0 i).1 < (t.get k).kids.length ∧ SafeAt t f ((t.get k).kids.getD (t.find (t.get k).kids 0 i).1 0) (t.find (t.get k).kids 0 i).2)
/-- Where a line lies, and another one in its place. -/
theorem at_spec : ∀ (h : Nat) (t : TD) (k : Nat) (ls : List ByteArray) (fp : List Nat) (i : Nat), Rep t h k ls fp → fp.Nodup → i < ls.length → (∀ j ∈ t.free, j < t.nodes.length) → t.load ≤ 10000000 → ls.length ≤ 1000000 → (t.get k).size ≤ 8 →
    SafeAt t (h + 1) k i ∧ ∃ j n, t.at (h + 1) k i = some (j, n) ∧ j ∈ fp ∧ t.fine j ∧ n < (t.get j).lines.length ∧ (t.get j).lines.getD n ⟨#[]⟩ = ls.getD i ⟨#[]⟩ ∧
      ∀ x, Rep (t.put j { t.get j with lines := (t.get j).lines.set n x }) h k (ls.set i x) fp ∧ ∀ y, ((t.put j { t.get j with lines := (t.get j).lines.set n x }).get y).size = (t.get y).size
  | 0, t, k, ls, fp, i, r, hnd, hi, hf, hL, hN, hs => by
    have hfine := rep_fine r hnd hf hL hN hs
    obtain ⟨r1, rfl⟩ := r
    have hg := get_of r1
    have hkl := lt_of_node r1
    refine ⟨⟨hfine, fun e => absurd (by rw [hg]) e⟩, k, i, by rw [TD.at, hg, if_pos rfl], by simp, hfine, by rw [hg]; exact hi, by rw [hg], fun x => ?_⟩
    rw [hg]
    refine ⟨⟨by rw [put_self _ hkl]; simp, rfl⟩, fun y => ?_⟩
    by_cases e : k = y
    · subst e
      rw [get_of (put_self _ hkl), hg]
      simp [ND.size]
    · rw [get_same (put_other _ _ e)]
  | h + 1, t, k, ls, fp, i, ⟨subs, r1, r2, r3, r4, r5⟩, hnd, hi, hf, hL, hN, hs => by
    have hfine := rep_fine (h := h + 1) ⟨subs, r1, r2, r3, r4, r5⟩ hnd hf hL hN hs
    subst r2 r3
    have hg := kids_size r1
    obtain ⟨pre, s, post, e1, e2, e3, _, e5⟩ := find_spec subs 0 i r4 (fun s hm => (r5 s hm).1.head.2.2) (by omega)
    have e4 := e5 hi
    rw [Nat.zero_add] at e2
    obtain ⟨a1, a2, a3⟩ := r5 s (by rw [e1]; simp)
    have hp := (e1 ▸ print_mid k pre s post : (k :: printOf subs).Perm _)
    have hnd2 := hp.nodup_iff.1 hnd
    have hdj := (List.nodup_append.1 hnd2).2.2
    have hsl : (linesOf pre).length + s.ls.length + (linesOf post).length = (linesOf subs).length := by
      rw [e1, linesOf_app, linesOf_cons, List.length_append, List.length_append]
      omega
    obtain ⟨b0, j, n, b1, b2, b2f, b3, b4, b5⟩ := at_spec h t s.k s.ls s.fp (i - (linesOf pre).length) a1 (List.nodup_append.1 hnd2).2.1 (by omega) hf hL (by omega) a3
    have hfind : (t.find (t.get k).kids 0 i) = (pre.length, i - (linesOf pre).length) := by rw [hg.2]; exact e2
    have hkid : (t.get k).kids.getD pre.length 0 = s.k := by rw [hg.2, e1]; exact kid_at _ _ _
    refine ⟨⟨hfine, fun _ => ?_⟩, j, n, ?_, ?_, b2f, b3, ?_, fun x => ?_⟩
    · rw [hfind]
      simp only []
      rw [hkid]
      exact ⟨by rw [hg.2, kidsOf_len, e1]; simp, b0⟩
    · rw [TD.at, hg.2, if_neg (kidsOf_ne r4), e2, e1, kid_at]
      exact b1
    · exact hp.mem_iff.2 (List.mem_append.2 (.inr b2))
    · rw [b4, e1, linesOf_app, linesOf_cons, List.getD_eq_getElem?_getD, List.getD_eq_getElem?_getD, List.getElem?_append_right e3, List.getElem?_append_left (by omega)]
    · obtain ⟨c1, c2⟩ := b5 x
      refine ⟨?_, c2⟩
      have keep : ∀ y, y ∈ (k :: (printOf pre ++ printOf post)) → (t.put j { t.get j with lines := (t.get j).lines.set n x }).nodes[y]? = t.nodes[y]? := fun y hy => put_other _ _ (fun e => hdj y hy j b2 e.symm)
      have hsub : Subs t h (pre ++ s :: post) := e1 ▸ r5
      refine ⟨pre ++ ⟨s.k, s.ls.set (i - (linesOf pre).length) x, s.fp⟩ :: post, ?_, ?_, ?_, by simp, fun y hy => ?_⟩
      · rw [keep k (by simp), r1, List.length_set, e1, kidsOf_app, kidsOf_app, kidsOf_cons, kidsOf_cons]
      · rw [e1, linesOf_app, linesOf_cons, linesOf_app, linesOf_cons, List.set_append_right _ _ e3, List.set_append_left _ _ (by omega)]
      · rw [e1, printOf_app, printOf_cons, printOf_app, printOf_cons]
      · rcases List.mem_append.1 hy with hy | hy
        · exact (hsub.left.congr (fun z hz => keep z (by simp [hz]))) y hy
        · rcases List.mem_cons.1 hy with rfl | hy
          · exact ⟨c1, by rw [c2]; exact a2, by rw [c2]; exact a3⟩
          · exact (Subs.congr (fun w hw => hsub.right w (List.mem_cons_of_mem _ hw)) (fun z hz => keep z (by simp [hz]))) y hy
theorem at_inv {t : TD} {h : Nat} {ls : List ByteArray} (v : Inv t h ls) (hL : t.load ≤ 10000000) (hN : ls.length ≤ 1000000) (i : Nat) (hi : i < ls.length) :
    SafeAt t (h + 1) t.root i ∧ ∃ j n, t.at (h + 1) t.root i = some (j, n) ∧ t.fine j ∧ n < (t.get j).lines.length ∧ (t.get j).lines.getD n ⟨#[]⟩ = ls.getD i ⟨#[]⟩ ∧
      ∀ x : ByteArray, Inv { t.put j { t.get j with lines := (t.get j).lines.set n x } with bytes := t.bytes + ((x.size : Int) - (ls.getD i ⟨#[]⟩).size) } h (ls.set i x) := by
  obtain ⟨fp, r, g⟩ := v.rep
  obtain ⟨b0, j, n, b1, b2, b2f, b3, b4, b5⟩ := at_spec h t t.root ls fp i r g.nodup hi (fun x hx => g.lt x (by simp [hx])) hL hN v.le
  refine ⟨b0, j, n, b1, b2f, b3, b4, fun x => ?_⟩
  obtain ⟨c1, c2⟩ := b5 x
  have st := Step.put g b2 { t.get j with lines := (t.get j).lines.set n x }
  refine ⟨⟨fp, c1.congr (fun _ _ => rfl), ⟨st.nod, st.lt⟩⟩, ?_, fun e => ?_, ?_⟩
  · show ((t.put j { t.get j with lines := (t.get j).lines.set n x }).get t.root).size ≤ 8
    rw [c2]; exact v.le
  · show 2 ≤ ((t.put j { t.get j with lines := (t.get j).lines.set n x }).get t.root).size
    rw [c2]; exact v.two e
  · show t.bytes + _ = _
    rw [v.bytes, sizes_set ls i x hi]
theorem walk_spec : ∀ (h : Nat) (t : TD) (k : Nat) (ls : List ByteArray) (fp : List Nat) (out : List ByteArray), Rep t h k ls fp → t.walk (h + 1) k out = some (out ++ ls)
  | 0, t, k, ls, fp, out, ⟨r1, _⟩ => by
    rw [TD.walk, get_of r1]
    rfl
  | h + 1, t, k, ls, fp, out, ⟨subs, r1, r2, r3, r4, r5⟩ => by
    rw [TD.walk, get_of r1, r2]
    simp only [List.append_nil]
    clear r1 r2 r3 r4
    induction subs generalizing out with
    | nil => simp [kidsOf, linesOf]
    | cons s subs ih =>
      rw [kidsOf_cons, List.foldlM_cons, walk_spec h t s.k s.ls s.fp out (r5 s List.mem_cons_self).1]
      show List.foldlM _ (out ++ s.ls) (kidsOf subs) = _
      rw [ih (out ++ s.ls) (fun x hx => r5 x (List.mem_cons_of_mem _ hx)), linesOf_cons, List.append_assoc]
theorem walk_inv {t : TD} {h : Nat} {ls : List ByteArray} (v : Inv t h ls) : t.walk (h + 1) t.root [] = some ls := by
  obtain ⟨fp, r, _⟩ := v.rep
  rw [walk_spec h t t.root ls fp [] r]
  rfl
def SafeWalk (t : TD) : Nat → Nat → Prop
  | 0, _ => False
  | f + 1, k => t.fine k ∧ ∀ j ∈ (t.get k).kids, SafeWalk t f j
theorem safe_walk : ∀ (h : Nat) (t : TD) (k : Nat) (ls : List ByteArray) (fp : List Nat), Rep t h k ls fp → fp.Nodup → (∀ j ∈ t.free, j < t.nodes.length) → t.load ≤ 10000000 → ls.length ≤ 1000000 → (t.get k).size ≤ 8 → SafeWalk t (h + 1) k
  | 0, t, k, ls, fp, r, hnd, hf, hL, hN, hs => ⟨rep_fine r hnd hf hL hN hs, fun j hj => by rw [get_of r.1] at hj; cases hj⟩
  | h + 1, t, k, ls, fp, ⟨subs, r1, r2, r3, r4, r5⟩, hnd, hf, hL, hN, hs => by
    refine ⟨rep_fine (h := h + 1) ⟨subs, r1, r2, r3, r4, r5⟩ hnd hf hL hN hs, fun j hj => ?_⟩
    rw [get_of r1] at hj
    obtain ⟨s, hm, rfl⟩ := List.mem_map.1 hj
    obtain ⟨a1, a2, a3⟩ := r5 s hm
    obtain ⟨pre, post, e1⟩ := List.append_of_mem hm
    have hn2 : s.fp.Nodup := by
      rw [r3] at hnd
      have hp := (e1 ▸ print_mid k pre s post : (k :: printOf subs).Perm _)
      exact (List.nodup_append.1 (hp.nodup_iff.1 hnd)).2.1
    have hl : s.ls.length ≤ ls.length := by
      rw [r2, e1, linesOf_app, linesOf_cons, List.length_append, List.length_append]
      omega
    exact safe_walk h t s.k s.ls s.fp a1 hn2 hf hL (by omega) a3
/-- Trees are so high at most. -/
theorem high : ∀ (h : Nat) (t : TD) (k : Nat) (ls : List ByteArray) (fp : List Nat), Rep t h k ls fp → (t.get k).size * 4 ^ h ≤ ls.length
  | 0, t, k, ls, fp, ⟨r1, _⟩ => by rw [get_of r1]; simp [ND.size]
  | h + 1, t, k, ls, fp, ⟨subs, r1, r2, r3, r4, r5⟩ => by
    rw [(kids_size r1).1, r2]
    clear r1 r2 r3 r4
    induction subs with
    | nil => simp
    | cons s subs ih =>
      have i1 := ih (fun x hx => r5 x (List.mem_cons_of_mem _ hx))
      obtain ⟨a1, a2, _⟩ := r5 s List.mem_cons_self
      have i2 := high h t s.k s.ls s.fp a1
      have i3 : 4 * 4 ^ h ≤ (t.get s.k).size * 4 ^ h := Nat.mul_le_mul_right _ a2
      have hp : 4 ^ (h + 1) = 4 * 4 ^ h := by rw [Nat.pow_succ, Nat.mul_comm]
      rw [linesOf_cons, List.length_append, List.length_cons, Nat.add_mul, Nat.one_mul]
      omega
theorem Inv.high {t : TD} {h : Nat} {ls : List ByteArray} (v : Inv t h ls) : h = 0 ∨ 2 * 4 ^ h ≤ ls.length := by
  rcases Nat.eq_zero_or_pos h with h0 | h0
  · exact .inl h0
  · right
    obtain ⟨fp, r, _⟩ := v.rep
    exact Nat.le_trans (Nat.mul_le_mul_right _ (v.two (by omega))) (Go.Proofs.Ytmklapbecdhnmaa.high h t t.root ls fp r)
theorem Inv.low {t : TD} {h : Nat} {ls : List ByteArray} (v : Inv t h ls) (hN : ls.length ≤ 1000000) : h ≤ 10 := by
  rcases v.high with h0 | h0
  · omega
  · rcases Nat.lt_or_ge h 11 with h1 | h1
    · omega
    · have : 4 ^ 11 ≤ 4 ^ h := Nat.pow_le_pow_right (by decide) h1
      have e : (4 : Nat) ^ 11 = 4194304 := by decide
      omega
end Go.Proofs.Ytmklapbecdhnmaa
