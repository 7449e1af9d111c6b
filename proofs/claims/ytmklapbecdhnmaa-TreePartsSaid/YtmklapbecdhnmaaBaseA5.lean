/- Lemmas that the law's proof stands on, part 5: Tj. No condition. -/
import Derived.Test.YtmklapbecdhnmaaBaseA0
import Derived.Test.YtmklapbecdhnmaaBaseA4
set_option linter.all false
set_option linter.unusedVariables false
set_option linter.unusedSimpArgs false
namespace Go.Proofs.Ytmklapbecdhnmaa
theorem sz_at (t : TD) (pre : List Sub) (s : Sub) (post : List Sub) : t.sz (kidsOf (pre ++ s :: post)) pre.length = (t.get s.k).size := by
  unfold TD.sz
  rw [kidsOf_app, kidsOf_cons, List.getElem?_append_right (by rw [kidsOf_len]; exact Nat.le_refl _), kidsOf_len]
  simp
theorem sz_next (t : TD) (pre : List Sub) (s x : Sub) (post : List Sub) : t.sz (kidsOf (pre ++ s :: x :: post)) (pre.length + 1) = (t.get x.k).size := by
  have := sz_at t (pre ++ [s]) x post
  simpa using this
theorem sz_end (t : TD) (pre : List Sub) (s : Sub) : t.sz (kidsOf (pre ++ [s])) (pre.length + 1) = 0 := by
  unfold TD.sz
  rw [List.getElem?_eq_none (by rw [kidsOf_len]; simp)]
def Mended (t u : TD) (h k c : Nat) (F : List Nat) (subs : List Sub) : Prop :=
  ∃ (subs2 : List Sub), u.nodes[k]? = some ⟨[], kidsOf subs2, c⟩ ∧ Subs u h subs2 ∧ linesOf subs2 = linesOf subs ∧ Step t F u (k :: printOf subs2) ∧ subs2.length ≤ subs.length ∧ subs.length ≤ subs2.length + 1
theorem print_two (k : Nat) (pre : List Sub) (a b : Sub) (post : List Sub) : (k :: printOf (pre ++ a :: b :: post)).Perm ((k :: (printOf pre ++ printOf post)) ++ (a.fp ++ b.fp)) := by
  rw [printOf_app, printOf_cons, printOf_cons, List.cons_append]
  refine List.Perm.cons _ ?_
  rw [List.append_assoc, ← List.append_assoc a.fp]
  exact List.Perm.append_left _ List.perm_append_comm
/-- Two neighbours have turned. -/
theorem mended_two {t u : TD} {h k c : Nat} {pre post : List Sub} {a b a' b' : Sub} {F : List Nat} (hk : t.nodes[k]? = some ⟨[], kidsOf (pre ++ a :: b :: post), c⟩) (xp : Subs t h pre) (xq : Subs t h post) (g : Good t F) (p : F.Perm (k :: printOf (pre ++ a :: b :: post)))
    (st : Step t (a.fp ++ b.fp) u (a'.fp ++ b'.fp)) (ea : a'.k = a.k) (eb : b'.k = b.k) (ra : Rep u h a'.k a'.ls a'.fp ∧ 4 ≤ (u.get a'.k).size ∧ (u.get a'.k).size ≤ 8) (rb : Rep u h b'.k b'.ls b'.fp ∧ 4 ≤ (u.get b'.k).size ∧ (u.get b'.k).size ≤ 8) (el : a'.ls ++ b'.ls = a.ls ++ b.ls) :
    Mended t u h k c F (pre ++ a :: b :: post) := by
  have g2 := g.perm (p.trans (print_two k pre a b post))
  have fr := st.frame _ g2
  have keep := st.keeps g2
  refine ⟨pre ++ a' :: b' :: post, ?_, ?_, ?_, fr.perm (p.trans (print_two k pre a b post)).symm (print_two k pre a' b' post).symm, by simp, by simp⟩
  · rw [keep k (by simp), hk, kidsOf_app, kidsOf_app, kidsOf_cons, kidsOf_cons, kidsOf_cons, kidsOf_cons, ea, eb]
  · refine (xp.congr (fun j hj => keep j (by simp [hj]))).app (fun x hx => ?_)
    rcases List.mem_cons.1 hx with rfl | hx
    · exact ra
    · rcases List.mem_cons.1 hx with rfl | hx
      · exact rb
      · exact (xq.congr (fun j hj => keep j (by simp [hj]))) x hx
  · rw [linesOf_app, linesOf_app, linesOf_cons, linesOf_cons, linesOf_cons, linesOf_cons, ← List.append_assoc a'.ls, el, List.append_assoc]
theorem fine_mid {t : TD} {h k c : Nat} {pre post : List Sub} {s : Sub} {F : List Nat} (hk : t.nodes[k]? = some ⟨[], kidsOf (pre ++ s :: post), c⟩) (xp : Subs t h pre) (xq : Subs t h post) (rs : Rep t h s.k s.ls s.fp)
    (g : Good t F) (p : F.Perm (k :: printOf (pre ++ s :: post))) (hL : t.load ≤ 10000000) (hN : (linesOf (pre ++ s :: post)).length ≤ 1000000) (hl : (pre ++ s :: post).length ≤ 100) : t.fine k := by
  have hkn : k ∉ printOf (pre ++ s :: post) := (List.nodup_cons.1 (g.perm p).nodup).1
  refine ⟨lt_of_node hk, by rw [get_of hk]; simp, by rw [get_of hk]; simp [kidsOf_len]; simp at hl; omega, fun j hj => ?_, ?_, fun j hj => g.lt j (by simp [hj]), hL, fun _ => by rw [get_of hk]⟩
  · rw [get_of hk] at hj
    obtain ⟨x, hm, rfl⟩ := List.mem_map.1 hj
    have hh : x.k ∈ x.fp ∧ x.k < t.nodes.length := by
      rcases List.mem_append.1 hm with hm | hm
      · exact ⟨(xp x hm).1.head.1, (xp x hm).1.head.2.1⟩
      · rcases List.mem_cons.1 hm with rfl | hm
        · exact ⟨rs.head.1, rs.head.2.1⟩
        · exact ⟨(xq x hm).1.head.1, (xq x hm).1.head.2.1⟩
    exact ⟨hh.2, fun e => hkn (e ▸ List.mem_flatMap.2 ⟨x, hm, hh.1⟩)⟩
  · rw [get_of hk]
    show 0 + t.counts (kidsOf (pre ++ s :: post)) ≤ _
    have ec : t.counts (kidsOf (pre ++ s :: post)) = (linesOf pre).length + (s.ls.length + (linesOf post).length) := by
      rw [kidsOf_app, kidsOf_cons]
      unfold TD.counts
      rw [List.map_append, List.sum_append, List.map_cons, List.sum_cons, rs.head.2.2]
      have h1 := xp.counts
      have h2 := xq.counts
      unfold TD.counts at h1 h2
      rw [h1, h2]
    rw [ec]
    rw [linesOf_app, linesOf_cons] at hN
    simp only [List.length_append] at hN
    omega
def SafeMend (t : TD) (k n : Nat) : Prop := t.fine k ∧ n < (t.get k).kids.length ∧ (∀ j ∈ (t.get k).kids, (t.get j).size ≤ 100) ∧
  (if 4 ≤ t.sz (t.get k).kids n then True
  else if 0 < n ∧ 4 < t.sz (t.get k).kids (n - 1) then SafeMove t ((t.get k).kids.getD (n - 1) 0) ((t.get k).kids.getD n 0) true
  else if 4 < t.sz (t.get k).kids (n + 1) then SafeMove t ((t.get k).kids.getD (n + 1) 0) ((t.get k).kids.getD n 0) false
  else if 0 < n then SafeMerge t k (n - 1)
  else SafeMerge t k n)
theorem mend_spec {t : TD} {h k c : Nat} {pre post : List Sub} {s : Sub} {F : List Nat} (hk : t.nodes[k]? = some ⟨[], kidsOf (pre ++ s :: post), c⟩) (xp : Subs t h pre) (xq : Subs t h post) (rs : Rep t h s.k s.ls s.fp)
    (g : Good t F) (p : F.Perm (k :: printOf (pre ++ s :: post))) (h3 : 3 ≤ (t.get s.k).size) (h8 : (t.get s.k).size ≤ 8) (h2 : 2 ≤ (pre ++ s :: post).length) (hL : t.load + 1 ≤ 10000000) (hN : (linesOf (pre ++ s :: post)).length ≤ 1000000) (hl9 : (pre ++ s :: post).length ≤ 100) :
    SafeMend t k pre.length ∧ Mended t (t.mend k pre.length) h k c F (pre ++ s :: post) := by
  have hfk := fine_mid hk xp xq rs g p (by omega) hN hl9
  have hkids : (t.get k).kids = kidsOf (pre ++ s :: post) := by rw [get_of hk]
  have hlt : pre.length < (t.get k).kids.length := by rw [hkids, kidsOf_len]; simp
  have hsz : ∀ j ∈ (t.get k).kids, (t.get j).size ≤ 100 := fun j hj => by
    rw [hkids] at hj
    obtain ⟨x, hx, rfl⟩ := List.mem_map.1 hj
    rcases List.mem_append.1 hx with hx | hx
    · have := (xp x hx).2.2; omega
    · rcases List.mem_cons.1 hx with rfl | hx
      · omega
      · have := (xq x hx).2.2; omega
  refine (fun (q : _ ∧ _) => ⟨⟨hfk, hlt, hsz, q.1⟩, q.2⟩) ?_
  unfold TD.mend
  simp only [hkids, sz_at]
  by_cases h4 : 4 ≤ (t.get s.k).size
  · simp only [if_pos h4]
    refine ⟨trivial, pre ++ s :: post, hk, xp.app (fun x hx => ?_), rfl, (Step.refl g).perm (List.Perm.refl _) p, Nat.le_refl _, by omega⟩
    rcases List.mem_cons.1 hx with rfl | hx
    · exact ⟨rs, h4, h8⟩
    · exact xq x hx
  · simp only [if_neg h4, kid_at]
    have hs3 : (t.get s.k).size = 3 := by omega
    -- with a neighbour ahead
    rcases Nat.eq_zero_or_pos pre.length with h0 | h0
    · obtain rfl : pre = [] := List.eq_nil_of_length_eq_zero h0
      simp only [if_neg (show ¬ (0 < ([] : List Sub).length ∧ 4 < t.sz (kidsOf ([] ++ s :: post)) (([] : List Sub).length - 1)) by simp)]
      cases post with
      | nil => simp at h2
      | cons r post =>
        have hr := xq r List.mem_cons_self
        have xq2 : Subs t h post := fun x hx => xq x (List.mem_cons_of_mem _ hx)
        have e1 : t.sz (kidsOf ([] ++ s :: r :: post)) (([] : List Sub).length + 1) = (t.get r.k).size := sz_next t [] s r post
        simp only [e1]
        by_cases h5 : 4 < (t.get r.k).size
        · simp only [if_pos h5]
          have e2 : (kidsOf ([] ++ s :: r :: post)).getD (([] : List Sub).length + 1) 0 = r.k := kid_next [] s r post
          simp only [e2]
          have gg := (g.perm (p.trans (print_two k [] s r post))).sub
          obtain ⟨m0, la', lb', fa', fb', m1, m2, m3, m4, m5, m6, m7⟩ := move_spec hr.1 rs (gg.perm List.perm_append_comm) (by omega) hr.2.2 (by omega) (by omega) (by simp [linesOf_app, linesOf_cons] at hN; omega) false
          have n1 : 4 ≤ ((t.move r.k s.k false).get s.k).size := by have := hr.2.2; omega
          have n2 : ((t.move r.k s.k false).get s.k).size ≤ 8 := by have := hr.2.2; omega
          have n3 : 4 ≤ ((t.move r.k s.k false).get r.k).size := by have := hr.2.2; omega
          have n4 : ((t.move r.k s.k false).get r.k).size ≤ 8 := by have := hr.2.2; omega
          exact ⟨m0, mended_two (a' := ⟨s.k, lb', fb'⟩) (b' := ⟨r.k, la', fa'⟩) hk xp xq2 g p (m3.perm List.perm_append_comm List.perm_append_comm) rfl rfl ⟨m2, n1, n2⟩ ⟨m1, n3, n4⟩ (m5 rfl)⟩
        · simp only [if_neg h5, if_neg (show ¬ 0 < ([] : List Sub).length by simp)]
          obtain ⟨q0, s2, q1, q2, q3, q4⟩ := merge_spec (pre := []) hk xp xq2 rs hr.1 g p (by omega) (by omega) hL hN hl9
          refine ⟨q0, [] ++ s2 :: post, q1, q2, ?_, q4, by simp, by simp⟩
          simp only [List.nil_append, linesOf_cons, q3, List.append_assoc]
    · obtain ⟨ini, l, rfl⟩ := snoc_of pre h0
      have hl := xp l (by simp)
      have xp2 : Subs t h ini := Subs.left xp
      have hk' : t.nodes[k]? = some ⟨[], kidsOf (ini ++ l :: s :: post), c⟩ := by rw [hk]; simp
      have p' : F.Perm (k :: printOf (ini ++ l :: s :: post)) := by rw [List.append_assoc] at p; exact p
      have elen : (ini ++ [l]).length - 1 = ini.length := by simp
      have e0 : kidsOf ((ini ++ [l]) ++ s :: post) = kidsOf (ini ++ l :: s :: post) := by simp
      have el : (ini ++ [l]) ++ s :: post = ini ++ l :: s :: post := by simp
      have e1 : t.sz (kidsOf ((ini ++ [l]) ++ s :: post)) ((ini ++ [l]).length - 1) = (t.get l.k).size := by rw [elen, e0]; exact sz_at t ini l (s :: post)
      have e2 : (kidsOf ((ini ++ [l]) ++ s :: post)).getD ((ini ++ [l]).length - 1) 0 = l.k := by rw [elen, e0]; exact kid_at ini l (s :: post)
      simp only [e1, e2]
      rw [elen]
      by_cases h5 : 4 < (t.get l.k).size
      · simp only [if_pos (And.intro h0 h5)]
        have gg := (g.perm (p'.trans (print_two k ini l s post))).sub
        obtain ⟨m0, la', lb', fa', fb', m1, m2, m3, m4, m5, m6, m7⟩ := move_spec hl.1 rs gg (by omega) hl.2.2 (by omega) (by omega) (by simp [linesOf_app, linesOf_cons] at hN; omega) true
        rw [el]
        have n1 : 4 ≤ ((t.move l.k s.k true).get l.k).size := by omega
        have n2 : ((t.move l.k s.k true).get l.k).size ≤ 8 := by have := hl.2.2; omega
        have n3 : 4 ≤ ((t.move l.k s.k true).get s.k).size := by omega
        have n4 : ((t.move l.k s.k true).get s.k).size ≤ 8 := by omega
        exact ⟨m0, mended_two (a' := ⟨l.k, la', fa'⟩) (b' := ⟨s.k, lb', fb'⟩) hk' xp2 xq g p' m3 rfl rfl ⟨m1, n1, n2⟩ ⟨m2, n3, n4⟩ (m4 rfl)⟩
      · simp only [if_neg (show ¬ (0 < (ini ++ [l]).length ∧ 4 < (t.get l.k).size) from fun h => h5 h.2)]
        have hmerge : SafeMerge t k ini.length ∧ Mended t (t.merge k ini.length) h k c F ((ini ++ [l]) ++ s :: post) := by
          obtain ⟨q0, s2, q1, q2, q3, q4⟩ := merge_spec hk' xp2 xq hl.1 rs g p' (by omega) (by omega) hL (by rw [← el]; exact hN) (by rw [← el]; exact hl9)
          refine ⟨q0, ini ++ s2 :: post, q1, q2, ?_, q4, by simp, by simp; omega⟩
          rw [el, linesOf_app, linesOf_app, linesOf_cons, linesOf_cons, linesOf_cons, q3, List.append_assoc]
        cases post with
        | nil =>
          simp only [sz_end, if_neg (show ¬ 4 < 0 by omega), if_pos h0]
          exact hmerge
        | cons r post =>
          simp only [sz_next]
          have hr := xq r List.mem_cons_self
          have xq2 : Subs t h post := fun x hx => xq x (List.mem_cons_of_mem _ hx)
          by_cases h6 : 4 < (t.get r.k).size
          · simp only [if_pos h6, kid_next]
            have gg := (g.perm (p.trans (print_two k (ini ++ [l]) s r post))).sub
            obtain ⟨m0, la', lb', fa', fb', m1, m2, m3, m4, m5, m6, m7⟩ := move_spec hr.1 rs (gg.perm List.perm_append_comm) (by omega) hr.2.2 (by omega) (by omega) (by simp [linesOf_app, linesOf_cons] at hN; omega) false
            have n1 : 4 ≤ ((t.move r.k s.k false).get s.k).size := by have := hr.2.2; omega
            have n2 : ((t.move r.k s.k false).get s.k).size ≤ 8 := by have := hr.2.2; omega
            have n3 : 4 ≤ ((t.move r.k s.k false).get r.k).size := by have := hr.2.2; omega
            have n4 : ((t.move r.k s.k false).get r.k).size ≤ 8 := by have := hr.2.2; omega
            exact ⟨m0, mended_two (a' := ⟨s.k, lb', fb'⟩) (b' := ⟨r.k, la', fa'⟩) hk xp xq2 g p (m3.perm List.perm_append_comm List.perm_append_comm) rfl rfl ⟨m2, n1, n2⟩ ⟨m1, n3, n4⟩ (m5 rfl)⟩
          · simp only [if_neg h6, if_pos h0]
            exact hmerge
theorem load_merge (t : TD) (k n : Nat) : (t.merge k n).load = t.load + 1 := by
  unfold TD.merge TD.merged
  rw [load_sum, load_put, load_drop, load_put]
theorem load_move (t : TD) (a b : Nat) (back : Bool) : (t.move a b back).load = t.load := by
  unfold TD.move TD.moved
  rw [load_sum, load_sum]
  split
  · split <;> rw [load_put, load_put]
  · split <;> rw [load_put, load_put]
theorem load_mend (t : TD) (k n : Nat) : (t.mend k n).load ≤ t.load + 1 := by
  unfold TD.mend
  split
  · omega
  · split
    · rw [load_move]; omega
    · split
      · rw [load_move]; omega
      · split <;> rw [load_merge] <;> omega
theorem load_rem : ∀ (f : Nat) (t : TD) (k i : Nat) (x : ByteArray) (s : TD), TD.rem f t k i = some (x, s) → s.load ≤ t.load + f
  | 0, t, k, i, x, s, h => by cases h
  | f + 1, t, k, i, x, s, h => by
    unfold TD.rem at h
    split at h
    · simp only [Option.some.injEq, Prod.mk.injEq] at h
      rw [← h.2, load_sum, load_put]
      omega
    · split at h
      · cases h
      · rename_i x2 s2 hr
        have ih := load_rem f _ _ _ _ _ hr
        simp only [Option.some.injEq, Prod.mk.injEq] at h
        have := load_mend s2 k (t.find (t.get k).kids 0 i).1
        rw [← h.2, load_sum]
        omega
/-- What holds wherever a call takes something out. -/
def SafeRem : Nat → TD → Nat → Nat → Prop
  | 0, _, _, _ => False
  | f + 1, t, k, i => t.fine k ∧ ((t.get k).kids = [] → i < (t.get k).lines.length ∧ (t.put k { t.get k with lines := delL (t.get k).lines i }).fine k) ∧
    ((t.get k).kids ≠ [] → (t.find (t.get k).kids 0 i).1 < (t.get k).kids.length ∧ SafeRem f t ((t.get k).kids.getD (t.find (t.get k).kids 0 i).1 0) (t.find (t.get k).kids 0 i).2 ∧
      ∀ x s, TD.rem f t ((t.get k).kids.getD (t.find (t.get k).kids 0 i).1 0) (t.find (t.get k).kids 0 i).2 = some (x, s) → SafeMend s k (t.find (t.get k).kids 0 i).1 ∧ (s.mend k (t.find (t.get k).kids 0 i).1).fine k)
theorem rem_spec : ∀ (h : Nat) (t : TD) (k : Nat) (ls : List ByteArray) (fp : List Nat) (i : Nat), Rep t h k ls fp → Good t fp → i < ls.length → (t.get k).size ≤ 8 → (h ≠ 0 → 2 ≤ (t.get k).size) → t.load + (h + 1) ≤ 10000000 → ls.length ≤ 1000000 →
    SafeRem (h + 1) t k i ∧ ∃ t' fp', TD.rem (h + 1) t k i = some (ls.getD i ⟨#[]⟩, t') ∧ Step t fp t' fp' ∧ Rep t' h k (delL ls i) fp' ∧ (t'.get k).size ≤ (t.get k).size ∧ (t.get k).size ≤ (t'.get k).size + 1
  | 0, t, k, ls, fp, i, r, g, hi, hs, _, hL, hN => by
    obtain ⟨r1, rfl⟩ := r
    have hg := get_of r1
    have hkl := lt_of_node r1
    have s1 := Step.put g (k := k) (by simp) ⟨delL ls i, [], ls.length⟩
    have r2 := sum_leaf (put_self (t := t) ⟨delL ls i, [], ls.length⟩ hkl)
    have s2 := Step.sum s1.good (k := k) (by simp)
    have hd := delL_len ls i hi
    have hln : ls.length ≤ 8 := by rw [hg] at hs; simpa [ND.size] using hs
    refine ⟨⟨fine_leaf r1 g (by omega) (by omega), fun _ => ?_, fun h => absurd (by rw [hg]) h⟩, _, [k], ?_, s1.trans s2, r2, ?_, ?_⟩
    · rw [hg]
      exact ⟨hi, fine_leaf (put_self (t := t) ⟨delL ls i, [], ls.length⟩ hkl) s1.good (by omega) (by rw [load_put]; omega)⟩
    · rw [TD.rem, hg, if_pos rfl]
    · rw [get_of r2.1, hg]
      simp [ND.size]
      omega
    · rw [get_of r2.1, hg]
      simp [ND.size]
      omega
  | h + 1, t, k, ls, fp, i, ⟨subs, r1, r2, r3, r4, r5⟩, g, hi, hs, h2, hL, hN => by
    subst r2 r3
    have hg := kids_size r1
    obtain ⟨pre, s, post, e1, e2, e3, _, e5⟩ := find_spec subs 0 i r4 (fun s hm => (r5 s hm).1.head.2.2) (by omega)
    have e4 := e5 hi
    rw [Nat.zero_add] at e2
    have g2 := g.perm (e1 ▸ print_mid k pre s post)
    have hsm : s ∈ subs := by rw [e1]; simp
    obtain ⟨a1, a2, a3⟩ := r5 s hsm
    have hsl : (linesOf pre).length + s.ls.length + (linesOf post).length = (linesOf subs).length := by
      rw [e1, linesOf_app, linesOf_cons, List.length_append, List.length_append]
      omega
    obtain ⟨b0, t1, fp1, b1, b2, b3, b4, b5⟩ := rem_spec h t s.k s.ls s.fp (i - (linesOf pre).length) a1 g2.sub (by omega) a3 (fun _ => by omega) (by omega) (by omega)
    have hl1 := load_rem _ _ _ _ _ _ b1
    have hdl := delL_len s.ls (i - (linesOf pre).length) (by omega)
    have hlnew : (linesOf (pre ++ (⟨s.k, delL s.ls (i - (linesOf pre).length), fp1⟩ : Sub) :: post)).length ≤ 1000000 := by
      rw [linesOf_app, linesOf_cons]
      simp only [List.length_append]
      omega
    have fr := b2.frame _ g2
    have keep := b2.keeps g2
    have k1 : t1.nodes[k]? = some ⟨[], kidsOf (pre ++ (⟨s.k, delL s.ls (i - (linesOf pre).length), fp1⟩ : Sub) :: post), (linesOf subs).length⟩ := by
      rw [keep k List.mem_cons_self, r1, e1, kidsOf_app, kidsOf_app, kidsOf_cons, kidsOf_cons]
    have hsub : Subs t h (pre ++ s :: post) := e1 ▸ r5
    have hpre : Subs t1 h pre := hsub.left.congr (fun j hj => keep j (by simp [hj]))
    have hpost : Subs t1 h post := Subs.congr (fun x hx => hsub.right x (List.mem_cons_of_mem _ hx)) (fun j hj => keep j (by simp [hj]))
    have hlen : (pre ++ (⟨s.k, delL s.ls (i - (linesOf pre).length), fp1⟩ : Sub) :: post).length = subs.length := by rw [e1]; simp
    obtain ⟨m0, subs2, m1, m2, m3, m4, m5, m6⟩ := mend_spec (s := ⟨s.k, delL s.ls (i - (linesOf pre).length), fp1⟩) k1 hpre hpost b3 fr.good (print_mid k pre ⟨s.k, delL s.ls (i - (linesOf pre).length), fp1⟩ post).symm (by show 3 ≤ (t1.get s.k).size; omega) (by show (t1.get s.k).size ≤ 8; omega) (by rw [hlen]; have := h2 (by omega); omega) (by omega) hlnew (by rw [hlen]; have := hg.1; omega)
    have h2' := h2 (by omega)
    rw [hlen] at m5 m6
    have hg1 := hg.1
    have hn2 : subs2 ≠ [] := fun e => by rw [e, List.length_nil] at m6; omega
    have hd := (List.nodup_cons.1 m4.good.nodup).1
    have q := sum_node m1 m2 hn2 hd
    have st := Step.sum m4.good (k := k) List.mem_cons_self
    have hz : (((t1.mend k pre.length).sum k).get k).size = subs2.length := by rw [sum_size, (kids_size m1).1]
    have hk0 : k ∉ printOf subs := (List.nodup_cons.1 g.nodup).1
    have hfk := fine_node r1 r5 hk0 g (by omega) (by omega) (by omega)
    have hfind : (t.find (t.get k).kids 0 i) = (pre.length, i - (linesOf pre).length) := by rw [hg.2]; exact e2
    have hkid : (t.get k).kids.getD pre.length 0 = s.k := by rw [hg.2, e1]; exact kid_at _ _ _
    have hlm := load_mend t1 k pre.length
    have hfm : (t1.mend k pre.length).fine k := fine_node m1 m2 hd m4.good (by omega) (by rw [m3]; exact hlnew) (by omega)
    refine ⟨⟨hfk, fun e => absurd (hg.2.symm.trans e) (kidsOf_ne r4), fun _ => ?_⟩, _, _, ?_, ((fr.trans m4).trans st).perm (print_mid k pre s post |>.symm.trans (by rw [e1])) (List.Perm.refl _), ?_, by omega, by omega⟩
    · rw [hfind]
      simp only []
      rw [hkid]
      refine ⟨by rw [hg.2, kidsOf_len, e1]; simp, b0, fun x2 s2 h3 => ?_⟩
      rw [b1] at h3
      injection h3 with h3
      injection h3 with h4 h5
      subst h4 h5
      exact ⟨m0, hfm⟩
    · rw [TD.rem, hg.2, if_neg (kidsOf_ne r4), e2, e1, kid_at]
      simp only []
      rw [b1]
      simp only []
      congr 2
      rw [linesOf_app, linesOf_cons, List.getD_eq_getElem?_getD, List.getD_eq_getElem?_getD, List.getElem?_append_right e3, List.getElem?_append_left (by omega)]
    · have : delL (linesOf subs) i = linesOf subs2 := by
        rw [m3, e1, linesOf_app, linesOf_cons, linesOf_app, linesOf_cons]
        exact delL_mid _ _ _ _ e3 (by omega)
      rw [this]
      exact q
end Go.Proofs.Ytmklapbecdhnmaa
