/- Lemmas that the law's proof stands on, part 4: Th, Tlic, Ti. No condition. -/
import Derived.Test.YtmklapbecdhnmaaBaseA0
import Derived.WalkSpells
import Derived.Test.YtmklapbecdhnmaaBaseA2
import Derived.Test.YtmklapbecdhnmaaBaseA3
set_option linter.all false
set_option linter.unusedVariables false
set_option linter.unusedSimpArgs false
namespace Go.Proofs.Ytmklapbecdhnmaa
theorem delL_mid {α : Type} (a b c : List α) (i : Nat) (h : a.length ≤ i) (h2 : i < a.length + b.length) : delL (a ++ (b ++ c)) i = a ++ (delL b (i - a.length) ++ c) := by
  unfold delL
  rw [List.take_append, List.drop_append, List.take_append, List.drop_append, List.take_of_length_le h, List.drop_eq_nil_of_le (show a.length ≤ i + 1 by omega)]
  rw [show i - a.length - b.length = 0 by omega, show i + 1 - a.length - b.length = 0 by omega, show i + 1 - a.length = i - a.length + 1 by omega]
  simp
theorem delL_len {α : Type} (a : List α) (i : Nat) (h : i < a.length) : (delL a i).length + 1 = a.length := by
  unfold delL
  rw [List.length_append, List.length_take, List.length_drop]
  omega
theorem delL_next {α : Type} (a b : List α) (y x : α) : delL (a ++ y :: x :: b) (a.length + 1) = a ++ y :: b := by
  unfold delL
  rw [List.take_append, List.drop_append, List.take_of_length_le (show a.length ≤ a.length + 1 by omega), List.drop_eq_nil_of_le (show a.length ≤ a.length + 1 + 1 by omega), show a.length + 1 - a.length = 1 by omega, show a.length + 1 + 1 - a.length = 2 by omega]
  simp
theorem Step.drop {t : TD} {b : Nat} {R : List Nat} (g : Good t (b :: R)) : Step t (b :: R) (t.drop b) R := by
  have hp : (R ++ (t.free ++ [b])).Perm ((b :: R) ++ t.free) := by
    rw [← List.append_assoc]
    exact (List.perm_append_singleton b (R ++ t.free)).trans (by simp)
  refine ⟨hp.nodup_iff.2 g.nod, fun j hj => ?_, fun j hj => .inl (hp.mem_iff.1 hj), fun j h1 h2 h3 => ?_, by simp [TD.drop], rfl, rfl⟩
  · have := g.lt j (hp.mem_iff.1 hj)
    simpa [TD.drop] using this
  · exact List.getElem?_set_ne (fun e => h2 (by rw [← show b = j from e]; simp))
theorem pair_node {t : TD} {h a b ca cb : Nat} {sa sb : List Sub} (hab : a ≠ b) (ha : a < t.nodes.length) (hb : b < t.nodes.length) (xa : Subs t h sa) (xb : Subs t h sb) (na : sa ≠ []) (nb : sb ≠ [])
    (d1 : ∀ x ∈ printOf sa ++ printOf sb, a ≠ x) (d2 : ∀ x ∈ printOf sa ++ printOf sb, b ≠ x) :
    Rep ((((t.put b ⟨[], kidsOf sb, cb⟩).put a ⟨[], kidsOf sa, ca⟩).sum a).sum b) (h + 1) a (linesOf sa) (a :: printOf sa) ∧ Rep ((((t.put b ⟨[], kidsOf sb, cb⟩).put a ⟨[], kidsOf sa, ca⟩).sum a).sum b) (h + 1) b (linesOf sb) (b :: printOf sb) := by
  obtain ⟨u, hu⟩ : ∃ u, (t.put b ⟨[], kidsOf sb, cb⟩).put a ⟨[], kidsOf sa, ca⟩ = u := ⟨_, rfl⟩
  have eu : ∀ x, a ≠ x → b ≠ x → u.nodes[x]? = t.nodes[x]? := fun x h1 h2 => by rw [← hu, put_other _ _ h1, put_other _ _ h2]
  have ua : u.nodes[a]? = some ⟨[], kidsOf sa, ca⟩ := by rw [← hu]; exact put_self _ (by rw [put_len]; exact ha)
  have ub : u.nodes[b]? = some ⟨[], kidsOf sb, cb⟩ := by rw [← hu, put_other _ _ hab]; exact put_self _ hb
  rw [hu]
  have yc : ∀ x ∈ printOf sa ++ printOf sb, u.nodes[x]? = t.nodes[x]? := fun x hx => eu x (d1 x hx) (d2 x hx)
  have ya : Subs u h sa := xa.congr (fun x hx => yc x (List.mem_append.2 (.inl hx)))
  have yb : Subs u h sb := xb.congr (fun x hx => yc x (List.mem_append.2 (.inr hx)))
  have ra := sum_node ua ya na (fun e => d1 a (List.mem_append.2 (.inl e)) rfl)
  have ub2 : (u.sum a).nodes[b]? = some ⟨[], kidsOf sb, cb⟩ := by rw [sum_other _ hab]; exact ub
  have yb2 : Subs (u.sum a) h sb := yb.congr (fun x hx => sum_other _ (d1 x (List.mem_append.2 (.inr hx))))
  have rb := sum_node ub2 yb2 nb (fun e => d2 b (List.mem_append.2 (.inr e)) rfl)
  refine ⟨ra.congr (fun x hx => sum_other _ ?_), rb⟩
  rcases List.mem_cons.1 hx with rfl | hx
  · exact fun e => hab e.symm
  · exact d2 x (List.mem_append.2 (.inl hx))
theorem pair_leaf {t : TD} {a b ca cb : Nat} {la lb : List ByteArray} (hab : a ≠ b) (ha : a < t.nodes.length) (hb : b < t.nodes.length) :
    Rep ((((t.put b ⟨lb, [], cb⟩).put a ⟨la, [], ca⟩).sum a).sum b) 0 a la [a] ∧ Rep ((((t.put b ⟨lb, [], cb⟩).put a ⟨la, [], ca⟩).sum a).sum b) 0 b lb [b] := by
  have ua : ((t.put b ⟨lb, [], cb⟩).put a ⟨la, [], ca⟩).nodes[a]? = some ⟨la, [], ca⟩ := put_self _ (by rw [put_len]; exact ha)
  have ub : (((t.put b ⟨lb, [], cb⟩).put a ⟨la, [], ca⟩).sum a).nodes[b]? = some ⟨lb, [], cb⟩ := by rw [sum_other _ hab, put_other _ _ hab]; exact put_self _ hb
  exact ⟨(sum_leaf ua).congr (fun x hx => by
    have : x = a := by simpa using hx
    rw [this]
    exact sum_other _ (fun e => hab e.symm)), sum_leaf ub⟩
theorem Step.pair {t : TD} {F : List Nat} (g : Good t F) {a b : Nat} (ha : a ∈ F) (hb : b ∈ F) (x y : ND) : Step t F ((((t.put b x).put a y).sum a).sum b) F := by
  have s1 := Step.put g hb x
  have s2 := Step.put s1.good ha y
  have s3 := Step.sum s2.good ha
  exact ((s1.trans s2).trans s3).trans (Step.sum s3.good hb)
theorem Rep.size {t : TD} : ∀ {h k : Nat} {ls : List ByteArray} {fp : List Nat}, Rep t h k ls fp → (h = 0 → (t.get k).size = ls.length)
  | 0, k, ls, fp, ⟨h1, _⟩, _ => by rw [get_of h1]; simp [ND.size]
theorem snoc_of {α : Type} (l : List α) (h : 0 < l.length) : ∃ i x, l = i ++ [x] := ⟨l.dropLast, l.getLast (by cases l <;> simp_all), (List.dropLast_concat_getLast _).symm⟩
def Moved (t u : TD) (h a b : Nat) (la lb : List ByteArray) (fa fb : List Nat) (back : Bool) : Prop :=
  ∃ la' lb' fa' fb', Rep u h a la' fa' ∧ Rep u h b lb' fb' ∧ Step t (fa ++ fb) u (fa' ++ fb') ∧
    (back = true → la' ++ lb' = la ++ lb) ∧ (back = false → lb' ++ la' = lb ++ la) ∧ (u.get a).size + 1 = (t.get a).size ∧ (u.get b).size = (t.get b).size + 1
def SafeMove (t : TD) (a b : Nat) (back : Bool) : Prop := t.fine a ∧ t.fine b ∧ a ≠ b ∧ 0 < (t.get a).size ∧ (t.moved a b back).fine a ∧ ((t.moved a b back).sum a).fine b
/-- One moves over. -/
theorem move_spec {t : TD} {h a b : Nat} {la lb : List ByteArray} {fa fb : List Nat} (ra : Rep t h a la fa) (rb : Rep t h b lb fb) (g : Good t (fa ++ fb)) (ha : 5 ≤ (t.get a).size) (ha8 : (t.get a).size ≤ 8) (hb : (t.get b).size ≤ 7) (hL : t.load ≤ 10000000) (hN : la.length + lb.length ≤ 1000000) (back : Bool) :
    SafeMove t a b back ∧ Moved t (t.move a b back) h a b la lb fa fb back := by
  have hnd := g.nodup
  have hab : a ≠ b := fun e => (List.nodup_append.1 hnd).2.2 a ra.head.1 b rb.head.1 e
  have hal := ra.head.2.1
  have hbl := rb.head.2.1
  cases h with
  | zero =>
    obtain ⟨r1, rfl⟩ := ra
    obtain ⟨r2, rfl⟩ := rb
    have ga := get_of r1
    have gb := get_of r2
    have hla : 5 ≤ la.length := by rw [ga] at ha; simpa [ND.size] using ha
    have hla8 : la.length ≤ 8 := by rw [ga] at ha8; simpa [ND.size] using ha8
    have hlb : lb.length ≤ 7 := by rw [gb] at hb; simpa [ND.size] using hb
    have key : ∀ la' lb', t.moved a b back = (t.put b ⟨lb', [], lb.length⟩).put a ⟨la', [], la.length⟩ → la'.length + 1 = la.length → lb'.length = lb.length + 1 → (back = true → la' ++ lb' = la ++ lb) → (back = false → lb' ++ la' = lb ++ la) → SafeMove t a b back ∧ Moved t (t.move a b back) 0 a b la lb [a] [b] back := fun la' lb' e0 h1 h2 h3 h4 => by
      have e : t.move a b back = (((t.put b ⟨lb', [], lb.length⟩).put a ⟨la', [], la.length⟩).sum a).sum b := by unfold TD.move; rw [e0]
      obtain ⟨p1, p2⟩ := pair_leaf (t := t) (ca := la.length) (cb := lb.length) (la := la') (lb := lb') hab hal hbl
      rw [← e] at p1 p2
      have st := Step.pair g (a := a) (b := b) (by simp) (by simp) ⟨lb', [], lb.length⟩ ⟨la', [], la.length⟩
      rw [← e] at st
      have s1 := Step.put g (k := b) (by simp) ⟨lb', [], lb.length⟩
      have s2 := Step.put s1.good (k := a) (by simp) ⟨la', [], la.length⟩
      have s3 := Step.sum s2.good (k := a) (by simp)
      have ua : ((t.put b ⟨lb', [], lb.length⟩).put a ⟨la', [], la.length⟩).nodes[a]? = some ⟨la', [], la.length⟩ := put_self _ (by rw [put_len]; exact hal)
      have ub : (((t.put b ⟨lb', [], lb.length⟩).put a ⟨la', [], la.length⟩).sum a).nodes[b]? = some ⟨lb', [], lb.length⟩ := by rw [sum_other _ hab, put_other _ _ hab]; exact put_self _ hbl
      refine ⟨⟨fine_leaf r1 g (by omega) hL, fine_leaf r2 g (by omega) hL, hab, by omega, ?_, ?_⟩, la', lb', [a], [b], p1, p2, st, h3, h4, by rw [get_of p1.1, ga]; simpa [ND.size] using h1, by rw [get_of p2.1, gb]; simpa [ND.size] using h2⟩
      · rw [e0]
        exact fine_leaf ua s2.good (by omega) (by rw [load_put, load_put]; exact hL)
      · rw [e0]
        exact fine_leaf ub s3.good (by omega) (by rw [load_sum, load_put, load_put]; exact hL)
    cases back with
    | true =>
      obtain ⟨ini, x, rfl⟩ := snoc_of la (by omega)
      refine key ini (x :: lb) ?_ (by simp) (by simp) (fun _ => by simp) (fun e => by cases e)
      unfold TD.moved
      rw [ga, gb, if_pos rfl, if_pos rfl]
      simp [insL]
    | false =>
      obtain ⟨x, r, rfl⟩ : ∃ x r, la = x :: r := by cases la with
        | nil => simp at hla
        | cons x r => exact ⟨x, r, rfl⟩
      refine key r (lb ++ [x]) ?_ (by simp) (by simp) (fun e => by cases e) (fun _ => by simp)
      unfold TD.moved
      rw [ga, gb, if_pos rfl, if_neg (by decide)]
      simp [delL]
  | succ h =>
    obtain ⟨sa, r1, rfl, rfl, na, xa⟩ := ra
    obtain ⟨sb, r2, rfl, rfl, nb, xb⟩ := rb
    have ga := get_of r1
    have gb := get_of r2
    have hla : 5 ≤ sa.length := by rw [(kids_size r1).1] at ha; exact ha
    have hla8 : sa.length ≤ 8 := by rw [(kids_size r1).1] at ha8; exact ha8
    have hlb : sb.length ≤ 7 := by rw [(kids_size r2).1] at hb; exact hb
    have d1 : ∀ x ∈ printOf sa ++ printOf sb, a ≠ x := fun x hx e => by
      subst e
      rw [List.cons_append, List.nodup_cons] at hnd
      exact hnd.1 (by rcases List.mem_append.1 hx with h | h <;> simp [h])
    have d2 : ∀ x ∈ printOf sa ++ printOf sb, b ≠ x := fun x hx e => by
      subst e
      have hp : ((a :: printOf sa) ++ b :: printOf sb).Perm (b :: ((a :: printOf sa) ++ printOf sb)) := List.perm_middle
      have := hp.nodup_iff.1 hnd
      rw [List.nodup_cons] at this
      exact this.1 (by rcases List.mem_append.1 hx with h | h <;> simp [h])
    have key : ∀ sa' sb', t.moved a b back = (t.put b ⟨[], kidsOf sb', (linesOf sb).length⟩).put a ⟨[], kidsOf sa', (linesOf sa).length⟩ → sa'.length + 1 = sa.length → sb'.length = sb.length + 1 → Subs t h sa' → Subs t h sb' → (printOf sa' ++ printOf sb').Perm (printOf sa ++ printOf sb) →
        (back = true → linesOf sa' ++ linesOf sb' = linesOf sa ++ linesOf sb) → (back = false → linesOf sb' ++ linesOf sa' = linesOf sb ++ linesOf sa) → SafeMove t a b back ∧ Moved t (t.move a b back) (h + 1) a b (linesOf sa) (linesOf sb) (a :: printOf sa) (b :: printOf sb) back := fun sa' sb' e0 h1 h2 ya yb hp h3 h4 => by
      have e : t.move a b back = (((t.put b ⟨[], kidsOf sb', (linesOf sb).length⟩).put a ⟨[], kidsOf sa', (linesOf sa).length⟩).sum a).sum b := by unfold TD.move; rw [e0]
      obtain ⟨p1, p2⟩ := pair_node (t := t) (ca := (linesOf sa).length) (cb := (linesOf sb).length) hab hal hbl ya yb (fun e => by rw [e] at h1; simp at h1; omega) (fun e => by rw [e] at h2; simp at h2) (fun x hx => d1 x (hp.mem_iff.1 hx)) (fun x hx => d2 x (hp.mem_iff.1 hx))
      rw [← e] at p1 p2
      have st := Step.pair g (a := a) (b := b) (by simp) (by simp) ⟨[], kidsOf sb', (linesOf sb).length⟩ ⟨[], kidsOf sa', (linesOf sa).length⟩
      rw [← e] at st
      have za : ((t.move a b back).get a).size = sa'.length := by
        rw [e, get_same (sum_other _ (fun e => hab e.symm)), sum_size, get_of (put_self _ (by rw [put_len]; exact hal))]
        simp [ND.size, kidsOf_len]
      have zb : ((t.move a b back).get b).size = sb'.length := by
        rw [e, sum_size, get_same (sum_other _ hab), get_same (put_other _ _ hab), get_of (put_self _ hbl)]
        simp [ND.size, kidsOf_len]
      have s1 := Step.put g (k := b) (by simp) ⟨[], kidsOf sb', (linesOf sb).length⟩
      have s2 := Step.put s1.good (k := a) (by simp) ⟨[], kidsOf sa', (linesOf sa).length⟩
      have s3 := Step.sum s2.good (k := a) (by simp)
      have ua : ((t.put b ⟨[], kidsOf sb', (linesOf sb).length⟩).put a ⟨[], kidsOf sa', (linesOf sa).length⟩).nodes[a]? = some ⟨[], kidsOf sa', (linesOf sa).length⟩ := put_self _ (by rw [put_len]; exact hal)
      have ub : (((t.put b ⟨[], kidsOf sb', (linesOf sb).length⟩).put a ⟨[], kidsOf sa', (linesOf sa).length⟩).sum a).nodes[b]? = some ⟨[], kidsOf sb', (linesOf sb).length⟩ := by rw [sum_other _ hab, put_other _ _ hab]; exact put_self _ hbl
      have yc : ∀ x ∈ printOf sa' ++ printOf sb', ((t.put b ⟨[], kidsOf sb', (linesOf sb).length⟩).put a ⟨[], kidsOf sa', (linesOf sa).length⟩).nodes[x]? = t.nodes[x]? := fun x hx => by
        rw [put_other _ _ (d1 x (hp.mem_iff.1 hx)), put_other _ _ (d2 x (hp.mem_iff.1 hx))]
      have hlen : (linesOf sa').length + (linesOf sb').length ≤ 1000000 := by
        cases back with
        | true => rw [← List.length_append, h3 rfl, List.length_append]; exact hN
        | false => rw [Nat.add_comm, ← List.length_append, h4 rfl, List.length_append]; omega
      refine ⟨⟨fine_node r1 xa (fun hx => d1 a (by simp [hx]) rfl) g (by omega) (by omega) hL, fine_node r2 xb (fun hx => d2 b (by simp [hx]) rfl) g (by omega) (by omega) hL, hab, by omega, ?_, ?_⟩, _, _, _, _, p1, p2, st.perm (List.Perm.refl _) ?_, h3, h4, by rw [za, (kids_size r1).1]; exact h1, by rw [zb, (kids_size r2).1]; exact h2⟩
      · rw [e0]
        exact fine_node ua (ya.congr (fun x hx => yc x (List.mem_append.2 (.inl hx)))) (fun hx => d1 a (hp.mem_iff.1 (List.mem_append.2 (.inl hx))) rfl) s2.good (by omega) (by omega) (by rw [load_put, load_put]; exact hL)
      · rw [e0]
        exact fine_node ub ((yb.congr (fun x hx => yc x (List.mem_append.2 (.inr hx)))).congr (fun x hx => sum_other _ (d1 x (hp.mem_iff.1 (List.mem_append.2 (.inr hx)))))) (fun hx => d2 b (hp.mem_iff.1 (List.mem_append.2 (.inr hx))) rfl) s3.good (by omega) (by omega) (by rw [load_sum, load_put, load_put]; exact hL)
      · rw [List.cons_append, List.cons_append]
        refine List.Perm.cons _ ?_
        refine List.perm_middle.trans (List.Perm.trans ?_ List.perm_middle.symm)
        exact List.Perm.cons _ hp.symm
    have hka : kidsOf sa ≠ [] := kidsOf_ne na
    cases back with
    | true =>
      obtain ⟨ini, x, rfl⟩ := snoc_of sa (by omega)
      refine key ini (x :: sb) ?_ (by simp) (by simp) (Subs.left xa) (fun y hy => ?_) ?_ (fun _ => by simp [linesOf]) (fun e => by cases e)
      · unfold TD.moved
        rw [ga, gb, if_neg hka, if_pos rfl]
        simp [insL, kidsOf]
      · rcases List.mem_cons.1 hy with rfl | hy
        · exact xa y (by simp)
        · exact xb y hy
      · simp [printOf]
    | false =>
      obtain ⟨x, r, rfl⟩ : ∃ x r, sa = x :: r := by cases sa with
        | nil => simp at hla
        | cons x r => exact ⟨x, r, rfl⟩
      refine key r (sb ++ [x]) ?_ (by simp) (by simp) (fun y hy => xa y (List.mem_cons_of_mem _ hy)) (Subs.app xb (fun y hy => by
        have : y = x := by simpa using hy
        rw [this]
        exact xa x (by simp))) ?_ (fun e => by cases e) (fun _ => by simp [linesOf])
      · unfold TD.moved
        rw [ga, gb, if_neg hka, if_neg (by decide)]
        simp [delL, kidsOf]
      · simp only [printOf_app, printOf_cons]
        show (printOf r ++ (printOf sb ++ (x.fp ++ printOf []))).Perm _
        rw [show printOf ([] : List Sub) = [] from rfl, List.append_nil]
        refine (List.perm_append_comm (l₁ := printOf r)).trans ?_
        rw [List.append_assoc]
        exact (List.perm_append_comm (l₁ := printOf sb)).trans (by rw [List.append_assoc])
end Go.Proofs.Ytmklapbecdhnmaa
namespace Go.Proofs.Ytmklapbecdhnmaa
open Go.RowKit
theorem Row.cells0 {w : World} {e : TypeId} {g n c : Nat} {xs : List Value} (h : Row w e (.slice (some ⟨g, 0, none⟩) n c) xs) : ∀ j u, xs[j]? = some u → w.cell? ⟨g, 0 + j, none⟩ = some u := fun j u hj => by
  have := h.cell j u hj
  rwa [Addr.add_lit] at this
theorem take_del (C cs : List Value) (i : Nat) (z : Value) (hC : C.take cs.length = cs) (hi : i < cs.length) :
    ([] ++ (cs.take i ++ cs.drop (i + 1) ++ [z]) ++ C.drop (0 + (cs.take i ++ cs.drop (i + 1) ++ [z]).length)).take (cs.length - 1) = delL cs i := by
  unfold delL
  rw [List.nil_append, List.append_assoc, List.append_assoc, ← List.append_assoc]
  refine List.take_left' ?_
  rw [List.length_append, List.length_take, List.length_drop]
  omega
set_option maxRecDepth 100000 in
/-- slices.Delete of one. -/
theorem delS_any {w : World} {v : Value} {ls : List ByteArray} (h : Row w 9 v (strsC ls)) (i : Nat) (hi : i < ls.length) :
    Calls Try.prog 49 #[v, .int .i64 (i : Int), .int .i64 ((i + 1 : Nat) : Int)] w fun e w' => ∃ v', e = .returned v' ∧ Row w' 9 v' (strsC (delL ls i)) ∧ Upd (fun b => v.ownBlock = some b) w w' ∧ Near w v v' := by
  have hln : (strsC ls).length = ls.length := by simp [strsC]
  rcases h with ⟨rfl, h⟩ | ⟨b, c, cur, rfl, hg, hnc, hcs, hcm, htake⟩
  · rw [← List.length_eq_zero_iff, hln] at h
    omega
  · have hcells := Row.cells0 (n := (strsC ls).length) (c := c) (.inr ⟨b, c, cur, rfl, hg, hnc, hcs, hcm, htake⟩)
    simp only [hln] at hnc htake hcells
    rw [hln]
    refine (Any.slices_Delete_string_cells Try.lays24 b 0 ls.length c i (i + 1) (fun j => ls.getD j ⟨#[]⟩) w hnc (by unfold maxLen at hcm; exact hcm) (by omega) (by omega) (fun j hj => hcells j _ ?_) (fun j _ => free_of hg _)).mono ?_
    · rw [strsC, List.getElem?_map, List.getD_eq_getElem?_getD, List.getElem?_eq_getElem hj]
      rfl
    · rintro e w' ⟨rfl, q, rfl⟩
      have hso : Lib.strsOf (fun j => ls.getD j ⟨#[]⟩) ls.length = ls.map fun s => s.data.toList := by
        unfold Lib.strsOf
        apply List.ext_getElem?
        intro j
        rw [List.getElem?_map, List.getElem?_map]
        by_cases hj : j < ls.length
        · rw [List.getElem?_range hj, List.getElem?_eq_getElem hj]
          simp [List.getElem?_eq_getElem hj]
        · rw [List.getElem?_eq_none (by simp; omega), List.getElem?_eq_none (by omega)]
          rfl
      have hvs : ((Lib.strsOf (fun j => ls.getD j ⟨#[]⟩) ls.length).take i ++ (Lib.strsOf (fun j => ls.getD j ⟨#[]⟩) ls.length).drop (i + 1) ++ List.replicate (i + 1 - i) []).map (fun l : List UInt8 => Value.string ⟨l.toArray⟩) = (strsC ls).take i ++ (strsC ls).drop (i + 1) ++ [.string ⟨#[]⟩] := by
        rw [hso, show i + 1 - i = 1 by omega, List.map_append, List.map_append, strsC, List.map_take, List.map_drop, List.map_map]
        rfl
      rw [hvs]
      obtain ⟨b1, b2, b3⟩ := heap_setCells ((strsC ls).take i ++ (strsC ls).drop (i + 1) ++ [.string ⟨#[]⟩]) 0 (w.drewN q) cur hg
      have hle : ((strsC ls).take i ++ (strsC ls).drop (i + 1) ++ [Value.string ⟨#[]⟩]).length = ls.length := by
        rw [List.length_append, List.length_append, List.length_take, List.length_drop, hln]
        simp
        omega
      obtain ⟨s3, s4⟩ := spl_list ((strsC ls).take i ++ (strsC ls).drop (i + 1) ++ [.string ⟨#[]⟩]) cur 0 (by rw [hle]; omega)
      rw [show ls.length - (i + 1 - i) = ls.length - 1 by omega]
      refine ⟨_, rfl, .of_cells b1 ?_ ?_ (by omega) (by rw [s4]; omega) hcm, (Upd.drawnN b2).mono (fun k _ e => by rw [e]; rfl), Near.refl _ _⟩
      · rw [s3, show strsC (delL ls i) = delL (strsC ls) i from delL_map _ _ _, List.take_zero, ← hln]
        exact take_del cur.toList (strsC ls) i _ (by rw [hln]; exact htake) (by rw [hln]; exact hi)
      · have := delL_len ls i hi
        simp [strsC]
        omega
set_option maxRecDepth 100000 in
/-- slices.Clone of something. -/
theorem cloneS_any {w : World} (g off n c : Nat) (ls : List ByteArray) (hn : ls.length = n) (hl : n ≤ 100000) (hc : ∀ j u, (strsC ls)[j]? = some u → w.cell? ⟨g, off + j, none⟩ = some u) :
    Calls Try.prog 55 #[.slice (some ⟨g, off, none⟩) n c] w fun e w' => ∃ v', e = .returned v' ∧ Row w' 9 v' (strsC ls) ∧ Upd (fun _ => False) w w' ∧ ∀ b, v'.ownBlock = some b → w.heap.size ≤ b := by
  refine (Any.slices_Clone_string Try.lays16 g off n c ls w (by omega) (by omega) (fun j hj => hc j _ ?_)).mono ?_
  · rw [strsC, List.getElem?_map, List.getD_eq_getElem?_getD, List.getElem?_eq_getElem hj]
    rfl
  · rintro e w' ⟨v', rfl, ho, _, hb⟩
    rw [List.take_of_length_le (by omega)] at ho
    exact ⟨v', rfl, .of_owns ho, false_upd2 hb, fun b hb => (ho.lt b hb).1⟩
set_option maxRecDepth 100000 in
theorem clipS_any {w : World} (a : Option Addr) (n c : Nat) (hnc : n ≤ c) (hc : c ≤ maxLen) :
    Calls Try.prog 56 #[.slice a n c] w fun e w' => e = .returned (.slice a n n) ∧ w = w' := by
  unfold maxLen at hc
  go_enter Try.func56, Try.ntmps56
  go_wp2
  go_ret
  exact ⟨rfl, rfl⟩
set_option maxRecDepth 100000 in
/-- slices.Delete of one. -/
theorem delI_any {w : World} {v : Value} {ls : List Nat} (h : Row w 3 v (natsC ls)) (i : Nat) (hi : i < ls.length) :
    Calls Try.prog 64 #[v, .int .i64 (i : Int), .int .i64 ((i + 1 : Nat) : Int)] w fun e w' => ∃ v', e = .returned v' ∧ Row w' 3 v' (natsC (delL ls i)) ∧ Upd (fun b => v.ownBlock = some b) w w' ∧ Near w v v' := by
  have hln : (natsC ls).length = ls.length := by simp [natsC]
  rcases h with ⟨rfl, h⟩ | ⟨b, c, cur, rfl, hg, hnc, hcs, hcm, htake⟩
  · rw [← List.length_eq_zero_iff, hln] at h
    omega
  · have hcells := Row.cells0 (n := (natsC ls).length) (c := c) (.inr ⟨b, c, cur, rfl, hg, hnc, hcs, hcm, htake⟩)
    simp only [hln] at hnc htake hcells
    rw [hln]
    refine (Any.slices_Delete_int_cells Try.lays23 b 0 ls.length c i (i + 1) (ls.map Int.ofNat) w (by simp) hnc (by unfold maxLen at hcm; exact hcm) (by omega) (by omega) (fun j hj => hcells j _ ?_) (fun j _ => free_of hg _)).mono ?_
    · have hj2 : j < ls.length := by simpa using hj
      rw [natsC, List.getElem?_map, List.getD_eq_getElem?_getD, List.getElem?_map, List.getElem?_eq_getElem hj2]
      rfl
    · rintro e w' ⟨rfl, q, rfl⟩
      have hvs : (((ls.map Int.ofNat).take ls.length).take i ++ ((ls.map Int.ofNat).take ls.length).drop (i + 1) ++ List.replicate (i + 1 - i) 0).map (Value.int .i64) = (natsC ls).take i ++ (natsC ls).drop (i + 1) ++ [.int .i64 0] := by
        rw [show (ls.map Int.ofNat).take ls.length = ls.map Int.ofNat from List.take_of_length_le (by simp), show i + 1 - i = 1 by omega, List.map_append, List.map_append, natsC, List.map_take, List.map_drop, List.map_map]
        rfl
      rw [hvs]
      obtain ⟨b1, b2, b3⟩ := heap_setCells ((natsC ls).take i ++ (natsC ls).drop (i + 1) ++ [.int .i64 0]) 0 (w.drewN q) cur hg
      have hle : ((natsC ls).take i ++ (natsC ls).drop (i + 1) ++ [Value.int .i64 0]).length = ls.length := by
        rw [List.length_append, List.length_append, List.length_take, List.length_drop, hln]
        simp
        omega
      obtain ⟨s3, s4⟩ := spl_list ((natsC ls).take i ++ (natsC ls).drop (i + 1) ++ [.int .i64 0]) cur 0 (by rw [hle]; omega)
      rw [show ls.length - (i + 1 - i) = ls.length - 1 by omega]
      refine ⟨_, rfl, .of_cells b1 ?_ ?_ (by omega) (by rw [s4]; omega) hcm, (Upd.drawnN b2).mono (fun k _ e => by rw [e]; rfl), Near.refl _ _⟩
      · rw [s3, show natsC (delL ls i) = delL (natsC ls) i from delL_map _ _ _, List.take_zero, ← hln]
        exact take_del cur.toList (natsC ls) i _ (by rw [hln]; exact htake) (by rw [hln]; exact hi)
      · have := delL_len ls i hi
        simp [natsC]
        omega
set_option maxRecDepth 100000 in
/-- slices.Clone of something. -/
theorem cloneI_any {w : World} (g off n c : Nat) (ls : List Nat) (hn : ls.length = n) (hl : n ≤ 100000) (hc : ∀ j u, (natsC ls)[j]? = some u → w.cell? ⟨g, off + j, none⟩ = some u) :
    Calls Try.prog 57 #[.slice (some ⟨g, off, none⟩) n c] w fun e w' => ∃ v', e = .returned v' ∧ Row w' 3 v' (natsC ls) ∧ Upd (fun _ => False) w w' ∧ ∀ b, v'.ownBlock = some b → w.heap.size ≤ b := by
  refine (Any.slices_Clone_int Try.lays15 g off n c (ls.map Int.ofNat) w (by simp; omega) (by omega) (fun j hj => hc j _ ?_)).mono ?_
  · have hj2 : j < ls.length := by simpa using hj
    rw [natsC, List.getElem?_map, List.getD_eq_getElem?_getD, List.getElem?_map, List.getElem?_eq_getElem hj2]
    rfl
  · rintro e w' ⟨v', rfl, ho, _, hb⟩
    rw [List.take_of_length_le (by simp; omega), List.map_map] at ho
    exact ⟨v', rfl, .of_owns (xs := natsC ls) ho, false_upd2 hb, fun b hb => (ho.lt b hb).1⟩
set_option maxRecDepth 100000 in
theorem clipI_any {w : World} (a : Option Addr) (n c : Nat) (hnc : n ≤ c) (hc : c ≤ maxLen) :
    Calls Try.prog 58 #[.slice a n c] w fun e w' => e = .returned (.slice a n n) ∧ w = w' := by
  unfold maxLen at hc
  go_enter Try.func58, Try.ntmps58
  go_wp2
  go_ret
  exact ⟨rfl, rfl⟩
end Go.Proofs.Ytmklapbecdhnmaa
namespace Go.Proofs.Ytmklapbecdhnmaa
theorem kid_next (pre : List Sub) (s x : Sub) (post : List Sub) : (kidsOf (pre ++ s :: x :: post)).getD (pre.length + 1) 0 = x.k := by
  have := kid_at (pre ++ [s]) x post
  simpa using this
def SafeMerge (t : TD) (k n : Nat) : Prop := t.fine k ∧ n + 1 < (t.get k).kids.length ∧ t.fine ((t.get k).kids.getD n 0) ∧ t.fine ((t.get k).kids.getD (n + 1) 0) ∧ (t.get k).kids.getD n 0 ≠ (t.get k).kids.getD (n + 1) 0 ∧ (t.merged k n).fine ((t.get k).kids.getD n 0)
/-- All of a node behind its neighbour's. -/
theorem merge_spec {t : TD} {h k c : Nat} {pre post : List Sub} {sa sb : Sub} {F : List Nat} (hk : t.nodes[k]? = some ⟨[], kidsOf (pre ++ sa :: sb :: post), c⟩) (xp : Subs t h pre) (xq : Subs t h post) (ra : Rep t h sa.k sa.ls sa.fp) (rb : Rep t h sb.k sb.ls sb.fp)
    (g : Good t F) (p : F.Perm (k :: printOf (pre ++ sa :: sb :: post))) (h4 : 4 ≤ (t.get sa.k).size + (t.get sb.k).size) (h8 : (t.get sa.k).size + (t.get sb.k).size ≤ 8) (hL : t.load + 1 ≤ 10000000) (hN : (linesOf (pre ++ sa :: sb :: post)).length ≤ 1000000) (hl : (pre ++ sa :: sb :: post).length ≤ 100) :
    SafeMerge t k pre.length ∧ ∃ s2 : Sub, (t.merge k pre.length).nodes[k]? = some ⟨[], kidsOf (pre ++ s2 :: post), c⟩ ∧ Subs (t.merge k pre.length) h (pre ++ s2 :: post) ∧ s2.ls = sa.ls ++ sb.ls ∧ Step t F (t.merge k pre.length) (k :: printOf (pre ++ s2 :: post)) := by
  obtain ⟨a, la, fa⟩ := sa
  obtain ⟨b, lb, fb⟩ := sb
  simp only [] at ra rb h4 h8
  obtain ⟨pa, hpa, qa⟩ : ∃ pa, fa = a :: pa ∧ (h = 0 → pa = []) := by
    cases h with
    | zero => exact ⟨[], ra.2, fun _ => rfl⟩
    | succ h => obtain ⟨xa, _, _, e, _⟩ := ra; exact ⟨_, e, fun e => by cases e⟩
  obtain ⟨pb, hpb, qb⟩ : ∃ pb, fb = b :: pb ∧ (h = 0 → pb = []) := by
    cases h with
    | zero => exact ⟨[], rb.2, fun _ => rfl⟩
    | succ h => obtain ⟨xb, _, _, e, _⟩ := rb; exact ⟨_, e, fun e => by cases e⟩
  have hp0 : (k :: printOf (pre ++ (⟨a, la, fa⟩ : Sub) :: ⟨b, lb, fb⟩ :: post)).Perm (b :: (k :: (printOf pre ++ ((a :: (pa ++ pb)) ++ printOf post)))) := by
    rw [printOf_app, printOf_cons, printOf_cons]
    show (k :: (printOf pre ++ (fa ++ (fb ++ printOf post)))).Perm _
    rw [hpa, hpb]
    refine (List.Perm.cons k ?_).trans (List.Perm.swap b k _)
    have e1 : (printOf pre ++ (a :: pa ++ (b :: pb ++ printOf post))) = (printOf pre ++ a :: pa) ++ b :: (pb ++ printOf post) := by simp
    have e2 : (printOf pre ++ (a :: (pa ++ pb) ++ printOf post)) = (printOf pre ++ a :: pa) ++ (pb ++ printOf post) := by simp
    rw [e1, e2]
    exact List.perm_middle
  have p2 := p.trans hp0
  have g2 := g.perm p2
  have hnd := g2.nodup
  obtain ⟨hb0, hnd⟩ := List.nodup_cons.1 hnd
  obtain ⟨hk0, hnd⟩ := List.nodup_cons.1 hnd
  have hp3 : (printOf pre ++ ((a :: (pa ++ pb)) ++ printOf post)).Perm (a :: (printOf pre ++ ((pa ++ pb) ++ printOf post))) := List.perm_middle
  have ha0 := (List.nodup_cons.1 (hp3.nodup_iff.1 hnd)).1
  have hba : b ≠ a := fun e => hb0 (by simp [e])
  have hbk : b ≠ k := fun e => hb0 (by simp [e])
  have hka : k ≠ a := fun e => hk0 (by simp [e])
  have hin : ∀ x, x ∈ printOf pre ∨ x ∈ pa ∨ x ∈ pb ∨ x ∈ printOf post → b ≠ x ∧ k ≠ x ∧ a ≠ x := fun x hx => by
    refine ⟨fun e => hb0 ?_, fun e => hk0 ?_, fun e => ha0 ?_⟩
    all_goals
      subst e
      simp only [List.mem_cons, List.mem_append]
      rcases hx with h | h | h | h <;> simp [h]
  have hal := ra.head.2.1
  have hbl := rb.head.2.1
  have hkl := lt_of_node hk
  obtain ⟨v, hv⟩ : ∃ v, ((t.put a ⟨(t.get a).lines ++ (t.get b).lines, (t.get a).kids ++ (t.get b).kids, (t.get a).count⟩).drop b).put k ⟨[], delL (kidsOf (pre ++ (⟨a, la, fa⟩ : Sub) :: ⟨b, lb, fb⟩ :: post)) (pre.length + 1), c⟩ = v := ⟨_, rfl⟩
  have hm : t.merge k pre.length = v.sum a := by
    unfold TD.merge TD.merged
    simp only [get_of hk]
    rw [kid_at, kid_next]
    rw [← hv]
  have hm0 : t.merged k pre.length = v := by
    unfold TD.merged
    simp only [get_of hk]
    rw [kid_at, kid_next]
    rw [← hv]
  have v0 : ∀ x, b ≠ x → k ≠ x → a ≠ x → v.nodes[x]? = t.nodes[x]? := fun x h1 h2 h3 => by
    rw [← hv, put_other _ _ h2]
    show ((t.put a _).nodes.set b .zero)[x]? = _
    rw [List.getElem?_set_ne h1, put_other _ _ h3]
  have va : v.nodes[a]? = some ⟨(t.get a).lines ++ (t.get b).lines, (t.get a).kids ++ (t.get b).kids, (t.get a).count⟩ := by
    rw [← hv, put_other _ _ hka]
    show ((t.put a _).nodes.set b .zero)[a]? = _
    rw [List.getElem?_set_ne hba, put_self _ hal]
  have vk : v.nodes[k]? = some ⟨[], delL (kidsOf (pre ++ (⟨a, la, fa⟩ : Sub) :: ⟨b, lb, fb⟩ :: post)) (pre.length + 1), c⟩ := by
    rw [← hv]
    refine put_self _ ?_
    show k < ((t.put a _).nodes.set b .zero).length
    rw [List.length_set, put_len]
    exact hkl
  have hdel : delL (kidsOf (pre ++ (⟨a, la, fa⟩ : Sub) :: ⟨b, lb, fb⟩ :: post)) (pre.length + 1) = kidsOf (pre ++ (⟨a, la ++ lb, a :: (pa ++ pb)⟩ : Sub) :: post) := by
    rw [kidsOf_app, kidsOf_cons, kidsOf_cons, kidsOf_app, kidsOf_cons, ← kidsOf_len pre]
    exact delL_next _ _ _ _
  rw [hdel] at vk
  have s1 := Step.put g2 (k := a) (by simp) ⟨(t.get a).lines ++ (t.get b).lines, (t.get a).kids ++ (t.get b).kids, (t.get a).count⟩
  have s2 := Step.drop s1.good
  have s3 := Step.put s2.good (k := k) (by simp) ⟨[], delL (kidsOf (pre ++ (⟨a, la, fa⟩ : Sub) :: ⟨b, lb, fb⟩ :: post)) (pre.length + 1), c⟩
  have s4 := ((s1.trans s2).trans s3)
  rw [hv] at s4
  have s5 := s4.trans (Step.sum s4.good (k := a) (by simp))
  have hrm : Rep (v.sum a) h a (la ++ lb) (a :: (pa ++ pb)) ∧ ((v.sum a).get a).size = (t.get a).size + (t.get b).size := by
    refine ⟨?_, ?_⟩
    · cases h with
      | zero =>
        have ea := get_of ra.1
        have eb := get_of rb.1
        rw [qa rfl, qb rfl]
        rw [ea, eb] at va
        exact sum_leaf va
      | succ h =>
        obtain ⟨xa, a1, a2, a3, a4, a5⟩ := ra
        obtain ⟨xb, b1, b2, b3, b4, b5⟩ := rb
        have ea := get_of a1
        have eb := get_of b1
        rw [ea, eb] at va
        have e3 : pa = printOf xa := by rw [hpa] at a3; exact (List.cons.inj a3).2
        have e4 : pb = printOf xb := by rw [hpb] at b3; exact (List.cons.inj b3).2
        have va2 : v.nodes[a]? = some ⟨[], kidsOf (xa ++ xb), la.length⟩ := by rw [va, kidsOf_app]; rfl
        have ys : Subs v h (xa ++ xb) := (Subs.app a5 b5).congr (fun x hx => by
          rw [printOf_app, ← e3, ← e4] at hx
          have := hin x (by rcases List.mem_append.1 hx with h | h <;> simp [h])
          exact v0 x this.1 this.2.1 this.2.2)
        have := sum_node va2 ys (by simp [a4]) (fun hx => by
          rw [printOf_app, ← e3, ← e4] at hx
          exact (hin a (by rcases List.mem_append.1 hx with h | h <;> simp [h])).2.2 rfl)
        rw [linesOf_app, printOf_app, ← a2, ← b2, ← e3, ← e4] at this
        exact this
    · rw [sum_size, get_of va]
      simp [ND.size]
      omega
  have hc : ∀ x, x ∈ printOf pre ∨ x ∈ printOf post → (v.sum a).nodes[x]? = t.nodes[x]? := fun x hx => by
    have := hin x (by rcases hx with h | h <;> simp [h])
    rw [sum_other _ this.2.2]
    exact v0 x this.1 this.2.1 this.2.2
  have hkids : (t.get k).kids = kidsOf (pre ++ (⟨a, la, fa⟩ : Sub) :: ⟨b, lb, fb⟩ :: post) := by rw [get_of hk]
  have eka : (t.get k).kids.getD pre.length 0 = a := by rw [hkids]; exact kid_at _ _ _
  have ekb : (t.get k).kids.getD (pre.length + 1) 0 = b := by rw [hkids]; exact kid_next _ _ _ _
  have hnl : la.length + lb.length ≤ 1000000 := by
    rw [linesOf_app, linesOf_cons, linesOf_cons] at hN
    simp only [List.length_append] at hN
    omega
  have hload : v.load ≤ 10000000 := by
    rw [← hv, load_put, load_drop, load_put]
    exact hL
  have gk := g.perm p
  have hfa : t.fine a ∧ t.fine b ∧ v.fine a := by
    cases h with
    | zero =>
      have ea := get_of ra.1
      have eb := get_of rb.1
      rw [ea, eb] at va h8
      simp only [ND.size, List.length_nil, Nat.add_zero] at h8
      refine ⟨fine_leaf ra.1 g (by omega) (by omega), fine_leaf rb.1 g (by omega) (by omega), fine_leaf va s4.good (by simp; omega) hload⟩
    | succ h =>
      obtain ⟨xa, a1, a2, a3, a4, a5⟩ := ra
      obtain ⟨xb, b1, b2, b3, b4, b5⟩ := rb
      have ea := get_of a1
      have eb := get_of b1
      rw [(kids_size a1).1, (kids_size b1).1] at h8
      rw [ea, eb] at va
      have e3 : pa = printOf xa := by rw [hpa] at a3; exact (List.cons.inj a3).2
      have e4 : pb = printOf xb := by rw [hpb] at b3; exact (List.cons.inj b3).2
      have va2 : v.nodes[a]? = some ⟨[], kidsOf (xa ++ xb), la.length⟩ := by rw [va, kidsOf_app]; rfl
      have ys : Subs v h (xa ++ xb) := (Subs.app a5 b5).congr (fun x hx => by
        rw [printOf_app, ← e3, ← e4] at hx
        have := hin x (by rcases List.mem_append.1 hx with h | h <;> simp [h])
        exact v0 x this.1 this.2.1 this.2.2)
      have hbb : b ∉ printOf xb := fun hx => (hin b (by rw [← e4] at hx; simp [hx])).1 rfl
      refine ⟨fine_node a1 a5 (fun hx => (hin a (by rw [← e3] at hx; simp [hx])).2.2 rfl) g (by omega) (by rw [← a2]; omega) (by omega), fine_node b1 b5 hbb g (by omega) (by rw [← b2]; omega) (by omega), fine_node va2 ys (fun hx => ?_) s4.good (by simp; omega) (by rw [linesOf_app, ← a2, ← b2, List.length_append]; exact hnl) hload⟩
      rw [printOf_app, ← e3, ← e4] at hx
      exact (hin a (by rcases List.mem_append.1 hx with h | h <;> simp [h])).2.2 rfl
  have hfk : t.fine k := by
    have hkn : k ∉ printOf (pre ++ (⟨a, la, fa⟩ : Sub) :: ⟨b, lb, fb⟩ :: post) := (List.nodup_cons.1 gk.nodup).1
    refine ⟨hkl, by rw [get_of hk]; simp, by rw [get_of hk]; simp [kidsOf_len]; simp at hl; omega, fun j hj => ?_, ?_, fun j hj => g.lt j (by simp [hj]), by omega, fun _ => by rw [get_of hk]⟩
    · rw [hkids] at hj
      obtain ⟨s, hm, rfl⟩ := List.mem_map.1 hj
      have hh : s.k ∈ s.fp ∧ s.k < t.nodes.length := by
        rcases List.mem_append.1 hm with hm | hm
        · exact ⟨(xp s hm).1.head.1, (xp s hm).1.head.2.1⟩
        · rcases List.mem_cons.1 hm with rfl | hm
          · exact ⟨ra.head.1, ra.head.2.1⟩
          · rcases List.mem_cons.1 hm with rfl | hm
            · exact ⟨rb.head.1, rb.head.2.1⟩
            · exact ⟨(xq s hm).1.head.1, (xq s hm).1.head.2.1⟩
      exact ⟨hh.2, fun e => hkn (e ▸ List.mem_flatMap.2 ⟨s, hm, hh.1⟩)⟩
    · rw [get_of hk]
      show 0 + t.counts (kidsOf (pre ++ (⟨a, la, fa⟩ : Sub) :: ⟨b, lb, fb⟩ :: post)) ≤ _
      have ec : t.counts (kidsOf (pre ++ (⟨a, la, fa⟩ : Sub) :: ⟨b, lb, fb⟩ :: post)) = (linesOf pre).length + (la.length + (lb.length + (linesOf post).length)) := by
        rw [kidsOf_app, kidsOf_cons, kidsOf_cons]
        unfold TD.counts
        rw [List.map_append, List.sum_append, List.map_cons, List.sum_cons, List.map_cons, List.sum_cons, ra.head.2.2, rb.head.2.2]
        have h1 := xp.counts
        have h2 := xq.counts
        unfold TD.counts at h1 h2
        rw [h1, h2]
      rw [ec]
      rw [linesOf_app, linesOf_cons, linesOf_cons] at hN
      simp only [List.length_append] at hN
      omega
  have hsafe : SafeMerge t k pre.length := by
    unfold SafeMerge
    rw [eka, ekb, hm0]
    exact ⟨hfk, by rw [hkids, kidsOf_len]; simp, hfa.1, hfa.2.1, fun e => hba e.symm, hfa.2.2⟩
  rw [hm]
  refine ⟨hsafe, ⟨a, la ++ lb, a :: (pa ++ pb)⟩, by rw [sum_other _ (fun e => hka e.symm)]; exact vk, ?_, rfl, ?_⟩
  · refine (xp.congr (fun x hx => hc x (.inl hx))).app (fun y hy => ?_)
    rcases List.mem_cons.1 hy with rfl | hy
    · exact ⟨hrm.1, by rw [hrm.2]; exact h4, by rw [hrm.2]; exact h8⟩
    · exact (xq.congr (fun x hx => hc x (.inr hx))) y hy
  · rw [printOf_app, printOf_cons]
    exact s5.perm p2.symm (List.Perm.refl _)
end Go.Proofs.Ytmklapbecdhnmaa
