/- The walk of the law ExpandParts. -/
import Derived.Test.YtalgdihaeglleaaExpN
import Derived.Test.YtalgdihaeglleaaExpQ
import Derived.Test.YtalgdihaeglleaaExpO
namespace Go.Proofs.Ytalgdihaeglleaa
open Go.RowKit

theorem outs_short (s : ByteArray) (mb me : Nat → Int) (hs : s.size ≤ 1000) : ∀ (ts : List Tm), (∀ t ∈ ts, t.text.size ≤ 1000) → ∀ x ∈ outs s mb me ts, x.length ≤ 1000 * ts.length
  | [], _, x, hx => by simp [outs] at hx; subst hx; simp
  | t :: ts, h, x, hx => by
    have ih := outs_short s mb me hs ts (fun u hu => h u (by simp [hu]))
    have ho : outs s mb me (t :: ts) = if t.kind = 3 then [] :: outs s mb me ts else glue (textOf s mb me t) (outs s mb me ts) := rfl
    rw [ho] at hx
    simp only [List.length_cons]
    by_cases h3 : t.kind = 3
    · rw [if_pos h3] at hx
      rcases List.mem_cons.1 hx with rfl | hx
      · simp
      · have := ih x hx; omega
    · rw [if_neg h3] at hx
      have htx : (textOf s mb me t).length ≤ 1000 := by
        unfold textOf
        repeat' split
        · have := h t (by simp); simpa using this
        · have : (groupB s mb me t.n).size ≤ 1000 := by
            unfold groupB
            repeat' split
            · simp [ByteArray.size]
            · simp [ByteArray.size]
            · simp; omega
          simpa using this
        · simp
      cases ho2 : outs s mb me ts with
      | nil => exact absurd ho2 (outs_ne s mb me ts)
      | cons a A =>
        rw [ho2] at hx ih
        simp only [glue] at hx
        rcases List.mem_cons.1 hx with rfl | hx
        · have := ih a (by simp); simp; omega
        · have := ih x (by simp [hx]); omega

/-- What three lists have to do with one another. -/
structure Parts3 (A B C : List (List UInt8)) (n : Nat) : Prop where
  a : A ≠ []
  b : B ≠ []
  len : C.length = n + 1
  sum : A.length + B.length = C.length + 1
  at_ : ∀ i, C.getD i [] = wantAt A B i
  sa : ∀ x ∈ A, x.length ≤ 1000000
  sb : ∀ x ∈ B, x.length ≤ 1000000

theorem parts3 (s : ByteArray) (mb me : Nat → Int) (l m : List Tm) (h : ∀ t ∈ l ++ m, t.kind ≠ 4) (hs : s.size ≤ 1000) (hl : l.length ≤ 40) (hm : m.length ≤ 40) (hx : ∀ t ∈ l, t.text.size ≤ 1000) (hy : ∀ t ∈ m, t.text.size ≤ 1000) :
    Parts3 (expLines s mb me l) (expLines s mb me m) (expLines s mb me (l ++ m)) (splitsOf (l ++ m)) := by
  rw [expLines_outs s mb me l (fun t ht => h t (List.mem_append_left _ ht)), expLines_outs s mb me m (fun t ht => h t (List.mem_append_right _ ht)), expLines_outs s mb me (l ++ m) h]
  have h1 := outs_ne s mb me l
  have h2 := outs_ne s mb me m
  refine ⟨h1, h2, outs_len _ _ _ _, ?_, fun i => ?_, fun x hx' => ?_, fun x hx' => ?_⟩
  · rw [outs_append]; exact (join_len _ _ h1 h2).symm
  · rw [outs_append]; exact join_at _ _ i h1 h2
  · have := outs_short s mb me hs l hx x hx'; omega
  · have := outs_short s mb me hs m hy x hx'; omega

theorem Parts3.facts {A B C : List (List UInt8)} {n : Nat} (h : Parts3 A B C n) : 0 < A.length ∧ 0 < B.length ∧ C.length = n + 1 ∧ A.length + B.length = C.length + 1 ∧ ((A.length : Int) == 0) = false ∧ ((B.length : Int) == 0) = false ∧
    ((C.length : Int) != (n : Int) + 1) = false ∧ ((A.length : Int) + B.length != (C.length : Int) + 1) = false := by
  have h1 := List.length_pos_iff.2 h.a
  have h2 := List.length_pos_iff.2 h.b
  have h3 := h.len
  have h4 := h.sum
  refine ⟨h1, h2, h3, h4, ?_, ?_, ?_, ?_⟩
  · simp only [beq_eq_false_iff_ne, ne_eq]; omega
  · simp only [beq_eq_false_iff_ne, ne_eq]; omega
  · simp only [bne_eq_false_iff_eq]; omega
  · simp only [bne_eq_false_iff_eq]; omega
theorem Parts3.early {A B C : List (List UInt8)} {n : Nat} (h : Parts3 A B C n) (i : Nat) (hi : i + 1 < A.length) (hc : i < C.length) : C[i] = A[i] := by
  have := h.at_ i
  unfold wantAt at this
  rw [if_pos (by omega), if_neg (by omega)] at this
  simpa [List.getD_eq_getElem?_getD, List.getElem?_eq_getElem hc, List.getElem?_eq_getElem (show i < A.length by omega)] using this
theorem Parts3.mid {A B C : List (List UInt8)} {n : Nat} (h : Parts3 A B C n) (i : Nat) (hi : i + 1 = A.length) (hc : i < C.length) (hb : 0 < B.length) : C[i] = A[i] ++ B[0] := by
  have := h.at_ i
  unfold wantAt at this
  rw [if_pos (by omega), if_pos (by omega), show i + 1 - A.length = 0 by omega] at this
  simpa [List.getD_eq_getElem?_getD, List.getElem?_eq_getElem hc, List.getElem?_eq_getElem (show i < A.length by omega), List.getElem?_eq_getElem hb] using this
theorem Parts3.late {A B C : List (List UInt8)} {n : Nat} (h : Parts3 A B C n) (i : Nat) (hi : A.length ≤ i) (hc : i < C.length) (hb : i + 1 - A.length < B.length) : C[i] = B[i + 1 - A.length] := by
  have := h.at_ i
  unfold wantAt at this
  rw [if_neg (by omega), if_pos (by omega)] at this
  simpa [List.getD_eq_getElem?_getD, List.getElem?_eq_getElem hc, List.getElem?_eq_getElem hb] using this

/-- The first loop of ExpandParts. -/
structure PartsRel (w : World) (al : List Tm) (k : Nat) (lv : Value) (wr : World) : Prop where
  own : wr.ownsRow w.heap.size 29 4 lv k (tmCells (al.take k))
  below : From w wr
  kinds : ∀ t ∈ al.take k, t.kind ≠ 4

theorem heap_alloc2 (w : World) (o1 : Obj) (c : Array Value) (T : TypeId) : ((w.alloc o1).alloc (.cells c T)).heap[w.heap.size + 1]? = some (.cells c T (0, 0)) := by
  have := heap_alloc_new (w.alloc o1) (.cells c T)
  rwa [show (w.alloc o1).heap.size = w.heap.size + 1 by simp] at this

theorem wpList_append_tmn {ops : Array Oper} {rest : List Oper} {o : Oper} {a : Act} {w : World} {Q : Exit → Act → World → Prop} {v : Value} {ts : List Tm} {base n : Nat} (hn : ts.length = n) (hgd : o.guard = none) (s x : Operand)
    (ho : o.op = .call { callee := .builtin .append, args := #[s, x], argTypes := #[30, 30] }) (t : Tm) (hs : a.eval s = v) (hown : w.ownsRow base 29 4 v n (tmCells ts))
    (b c : Nat) (hx : a.eval x = .slice (some ⟨b, 0, none⟩) 1 c) (hc : w.heap[b]? = some (.cells t.cells.toArray 29 (0, 0))) (hl : n ≤ 1000) (hbase : base ≤ w.heap.size)
    (h : ∀ g cap w', w'.ownsRow base 29 4 (.slice (some ⟨g, 0, none⟩) (n + 1) cap) (n + 1) (tmCells (ts ++ [t])) → Below base w w' → wpList Try.prog ops Q rest (a.put o.dst (.slice (some ⟨g, 0, none⟩) (n + 1) cap)) w') :
    wpList Try.prog ops Q (o :: rest) a w := by
  subst hn
  refine wpList_append_tm hgd s x ho t hs hown b c hx hc hl hbase (fun g cap w' hO hB => h g cap w' ?_ hB)
  simpa using hO

theorem PartsRel.step {W1 wr w2 : World} {al : List Tm} {k : Nat} {lv lv2 : Value} {t : Tm} (h : PartsRel W1 al k lv wr) (htk : al.take (k + 1) = al.take k ++ [t]) (h4 : t.kind ≠ 4)
    (hO : w2.ownsRow W1.heap.size 29 4 lv2 (k + 1) (tmCells (al.take k ++ [t]))) (hB : Below W1.heap.size W1 w2) : PartsRel W1 al (k + 1) lv2 w2 := by
  refine ⟨htk ▸ hO, hB, fun u hu => ?_⟩
  rw [htk] at hu
  rcases List.mem_append.1 hu with hu | hu
  · exact h.kinds u hu
  · simp only [List.mem_singleton] at hu
    subst hu
    exact h4
theorem splits_step {al : List Tm} {k : Nat} {t : Tm} (htk : al.take (k + 1) = al.take k ++ [t]) : splitsOf (al.take (k + 1)) = splitsOf (al.take k) + (if t.kind = 3 then 1 else 0) := by
  rw [htk]
  simp [splitsOf, List.countP_append, List.countP_singleton]

theorem cell_any {w : World} {p : Addr} {v : Value} (h : w.cell? p = some v) (o : Obj) : (w.alloc o).cell? p = some v :=
  ((Upd.refl (fun _ => False) w).alloc o).cell h (fun h => h)

theorem take_next (al : List Tm) (k : Nat) (h : k < al.length) : al.take (k + 1) = al.take k ++ [al[k]] := List.take_succ_eq_append_getElem h

set_option maxRecDepth 100000 in
set_option maxHeartbeats 4000000 in
theorem expandParts_in {w : World} (a : Option Addr) (cp : Nat) (l : List Tm) (ht : TmsAt w a l) (hn : l.length ≤ maxLen) (hx : ∀ t ∈ l, t.text.size ≤ 140737488351232) (a2 : Option Addr) (cp2 : Nat) (m : List Tm) (ht2 : TmsAt w a2 m) (hn2 : m.length ≤ maxLen) (hx2 : ∀ t ∈ m, t.text.size ≤ 140737488351232)
    (s : ByteArray) (hs : s.size ≤ 140737488351232) (cs : Array Value) (mb me : Nat → Int) (hm : IsMatch cs mb me) (hv : heavyB l s = false) (hv2 : heavyB m s = false) :
    Calls Try.prog 6 #[tmsV a l.length cp, tmsV a2 m.length cp2, .string s, .agg cs] w fun e w' => e = .returned (.bool true) ∧ Below w.heap.size w w' := by
  obtain ⟨q1, q2, q3⟩ := heavy_not hv
  obtain ⟨q4, _, q5⟩ := heavy_not hv2
  have Hv := Lib.hid hv; clear hv
  have Hv2 := Lib.hid hv2; clear hv2
  unfold tmsV
  go_enter Try.func6, Try.ntmps6
  go_wp2_with (first
    | (go_at_call_of 10 (Value.slice a l.length cp)
       obtain ⟨hH, hB, hsz⟩ := match_new w cs 25
       have ht0 := TmsAt.upd ht (false_upd hB) (fun _ _ h => h)
       have hu0 := TmsAt.upd ht2 (false_upd hB) (fun _ _ h => h)
       generalize w.alloc (.cells cs 25) = W0 at *
       refine (heavy_all a cp l s _ ht0 hn hs hx).mono ?_; rw [Hv.out]; rintro e w1 ⟨rfl, rfl⟩)
    | (go_at_call_of 10 (Value.slice a2 m.length cp2)
       refine (heavy_all a2 cp2 m s _ hu0 hn2 hs hx2).mono ?_; rw [Hv2.out]; rintro e w1 ⟨rfl, rfl⟩)
    | (go_at_call 8; refine (known_any _).mono ?_; rintro e W1 ⟨rfl, hq⟩
       have ht1 := TmsAt.upd ht0 (false_upd hq) (fun _ _ h => h)
       have hu1 := TmsAt.upd hu0 (false_upd hq) (fun _ _ h => h)
       have hH1 := (false_upd hq).heap hH (fun h => h)
       have hB1 := hB.trans (hq.mono hB.size)
       clear ht0 hH hB hq hsz hu0 ht ht2))
  have hAL : (l ++ m).length = l.length + m.length := List.length_append
  go_loopw [9, 10, 11] (fun v n i wr => ∃ (k : Nat) (lv : Value), k ≤ (l ++ m).length ∧ i = .int .i64 k ∧ v = lv ∧ n = .int .i64 (splitsOf ((l ++ m).take k)) ∧ PartsRel W1 (l ++ m) k lv wr) (fun v n i _ => (l ++ m).length - (intOf i).toNat)
  case atStart => exact ⟨0, _, by omega, rfl, rfl, by simp [splitsOf], ⟨World.ownsRow_nil _ _ _ _, Below.refl _ _, by simp⟩⟩
  case round =>
    obtain ⟨k, lv, hk, rfl, rfl, rfl, hR⟩ := hrel
    by_cases hlt : k < (l ++ m).length
    · obtain ⟨t, ht, htx, hcell, htk⟩ : ∃ t, (l ++ m)[k] = t ∧ t.text.size ≤ 1000 ∧ ((k < l.length ∧ ∃ b o, a = some ⟨b, o, none⟩ ∧ wr.cell? ⟨b, o + k * 4, none⟩ = some (.int .u8 t.kind) ∧ wr.cell? ⟨b, o + k * 4 + 1, none⟩ = some (.string t.text) ∧ wr.cell? ⟨b, o + k * 4 + 2, none⟩ = some (.int .i64 t.n) ∧ wr.cell? ⟨b, o + k * 4 + 3, none⟩ = some (.int .u8 t.c)) ∨
          (l.length ≤ k ∧ ∃ b o, a2 = some ⟨b, o, none⟩ ∧ wr.cell? ⟨b, o + (k - l.length) * 4, none⟩ = some (.int .u8 t.kind) ∧ wr.cell? ⟨b, o + (k - l.length) * 4 + 1, none⟩ = some (.string t.text) ∧ wr.cell? ⟨b, o + (k - l.length) * 4 + 2, none⟩ = some (.int .i64 t.n) ∧ wr.cell? ⟨b, o + (k - l.length) * 4 + 3, none⟩ = some (.int .u8 t.c))) ∧
          Hid ((l ++ m).take (k + 1) = (l ++ m).take k ++ [t]) := by
        refine ⟨_, rfl, ?_, ?_, Lib.hid (take_next _ _ hlt)⟩
        · rcases List.mem_append.1 (List.getElem_mem hlt) with h | h
          · exact q3 _ h
          · exact q5 _ h
        · by_cases hkl : k < l.length
          · obtain ⟨b, o, e, e0, e1, e2, e3⟩ := (TmsAt.upd ht1 (false_upd hR.below) (fun _ _ h => h)) k hkl
            rw [List.getElem_append_left hkl]
            exact .inl ⟨hkl, b, o, e, e0, e1, e2, e3⟩
          · obtain ⟨b, o, e, e0, e1, e2, e3⟩ := (TmsAt.upd hu1 (false_upd hR.below) (fun _ _ h => h)) (k - l.length) (by omega)
            rw [List.getElem_append_right (by omega)]
            exact .inr ⟨by omega, b, o, e, e0, e1, e2, e3⟩
      obtain ⟨tk, tt, tn, tc⟩ := t
      simp only at htx hcell
      have hO := hR.own
      have hB := hR.below
      have HR := Lib.hid hR
      have Hst := Lib.hid (splits_step htk.out)
      clear hR ht1 hu1 ht
      have hnb : splitsOf ((l ++ m).take k) ≤ 80 := by
        have h1 : splitsOf ((l ++ m).take k) ≤ ((l ++ m).take k).length := List.countP_le_length
        have h2 := List.length_take_le k (l ++ m)
        omega
      generalize splitsOf ((l ++ m).take k) = nn at *
      rcases hcell with ⟨hkl, b, o, rfl, e0, e1, e2, e3⟩ | ⟨hkl, b, o, rfl, e0, e1, e2, e3⟩
      · replace e0 := cell_any e0
        replace e1 := cell_any e1
        replace e2 := cell_any e2
        replace e3 := cell_any e3
        by_cases h4 : tk = 4
        · subst h4
          have hBw : Below w.heap.size w wr := hB1.trans (hB.mono hB1.size)
          go_wp2_with fail
          go_ret
          exact ⟨rfl, hBw.alloc hBw.size _⟩
        · by_cases h3 : tk = 3
          · subst h3
            go_wp2_with (at_builtin; refine wpList_append_tmn (n := k) (List.length_take_of_le (by omega)) rfl _ _ rfl ⟨3, tt, tn, tc⟩ rfl ((hO.alloc _).alloc _) (wr.heap.size + 1) 1 rfl (heap_alloc2 _ _ _ _) (by omega) (by have := hB.size; simp; omega) ?_; intro g cap w2 hO2 hB2; have hB3 := ((hB.alloc hB.size _).alloc (by have := hB.size; simp; omega) _).trans hB2; clear hB2)
            go_roundw
            case rel => exact ⟨k + 1, _, by omega, by go_num, rfl, by rw [Hst.out]; simp, HR.out.step htk.out (by simp) hO2 hB3⟩
            case measure => simp [intOf]; omega
          · have k4 : (tk == 4) = false := by simpa using h4
            have k3 : (tk == 3) = false := by simpa using h3
            go_wp2_with (at_builtin; refine wpList_append_tmn (n := k) (List.length_take_of_le (by omega)) rfl _ _ rfl ⟨tk, tt, tn, tc⟩ rfl ((hO.alloc _).alloc _) (wr.heap.size + 1) 1 rfl (heap_alloc2 _ _ _ _) (by omega) (by have := hB.size; simp; omega) ?_; intro g cap w2 hO2 hB2; have hB3 := ((hB.alloc hB.size _).alloc (by have := hB.size; simp; omega) _).trans hB2; clear hB2)
            go_roundw
            case rel => exact ⟨k + 1, _, by omega, by go_num, rfl, by rw [Hst.out]; simp [h3], HR.out.step htk.out (by exact h4) hO2 hB3⟩
            case measure => simp [intOf]; omega
      · replace e0 := cell_any e0
        replace e1 := cell_any e1
        replace e2 := cell_any e2
        replace e3 := cell_any e3
        by_cases h4 : tk = 4
        · subst h4
          have hBw : Below w.heap.size w wr := hB1.trans (hB.mono hB1.size)
          go_wp2_with fail
          go_ret
          exact ⟨rfl, hBw.alloc hBw.size _⟩
        · by_cases h3 : tk = 3
          · subst h3
            go_wp2_with (at_builtin; refine wpList_append_tmn (n := k) (List.length_take_of_le (by omega)) rfl _ _ rfl ⟨3, tt, tn, tc⟩ rfl ((hO.alloc _).alloc _) (wr.heap.size + 1) 1 rfl (heap_alloc2 _ _ _ _) (by omega) (by have := hB.size; simp; omega) ?_; intro g cap w2 hO2 hB2; have hB3 := ((hB.alloc hB.size _).alloc (by have := hB.size; simp; omega) _).trans hB2; clear hB2)
            go_roundw
            case rel => exact ⟨k + 1, _, by omega, by go_num, rfl, by rw [Hst.out]; simp, HR.out.step htk.out (by simp) hO2 hB3⟩
            case measure => simp [intOf]; omega
          · have k4 : (tk == 4) = false := by simpa using h4
            have k3 : (tk == 3) = false := by simpa using h3
            go_wp2_with (at_builtin; refine wpList_append_tmn (n := k) (List.length_take_of_le (by omega)) rfl _ _ rfl ⟨tk, tt, tn, tc⟩ rfl ((hO.alloc _).alloc _) (wr.heap.size + 1) 1 rfl (heap_alloc2 _ _ _ _) (by omega) (by have := hB.size; simp; omega) ?_; intro g cap w2 hO2 hB2; have hB3 := ((hB.alloc hB.size _).alloc (by have := hB.size; simp; omega) _).trans hB2; clear hB2)
            go_roundw
            case rel => exact ⟨k + 1, _, by omega, by go_num, rfl, by rw [Hst.out]; simp [h3], HR.out.step htk.out (by exact h4) hO2 hB3⟩
            case measure => simp [intOf]; omega
    · obtain rfl : k = (l ++ m).length := by omega
      have hO := hR.own
      have hB : Below W1.heap.size W1 wr := hR.below
      have hkd := hR.kinds
      clear hR
      rw [List.take_length] at hO hkd
      have H3 := Lib.hid (parts3 s mb me l m hkd q2 q1 q4 q3 q5)
      rw [List.take_length]
      obtain ⟨a3, cp3, rfl, ht3⟩ := TmsAt.of_owns hO
      have htw := TmsAt.upd ht1 (false_upd hB) (fun _ _ h => h)
      have huw := TmsAt.upd hu1 (false_upd hB) (fun _ _ h => h)
      have hHw := (false_upd hB).heap hH1 (fun h => h)
      have hBw : Below w.heap.size w wr := hB1.trans (hB.mono hB1.size)
      have hal : ∀ t ∈ l ++ m, t.text.size ≤ 1000 := fun t h => by
        rcases List.mem_append.1 h with h | h
        · exact q3 _ h
        · exact q5 _ h
      have hl80 : (l ++ m).length ≤ 1000 := by omega
      clear hO ht1 hu1 hH1 hB hkd hlt hk
      unfold tmsV
      have hnb : splitsOf (l ++ m) ≤ 80 := by
        have h1 : splitsOf (l ++ m) ≤ (l ++ m).length := List.countP_le_length
        omega
      generalize splitsOf (l ++ m) = nn at *
      generalize l ++ m = al at *
      go_wp2_with (first
        | (go_at_call_of 9 (Value.slice a l.length cp)
           refine (lines_any a cp l s cs mb me _ htw hm q2 (by omega) q3).mono ?_
           rintro e w5 ⟨d1, rfl, hb5, ho5⟩
           have S1 := StrsAt.of_owns ho5
           replace huw := TmsAt.upd huw (false_upd hb5) (fun _ _ h => h)
           replace ht3 := TmsAt.upd ht3 (false_upd hb5) (fun _ _ h => h)
           replace hHw := (false_upd hb5).heap hHw (fun h => h)
           replace hBw := hBw.trans (hb5.mono hBw.size)
           clear ho5 htw hb5)
        | (go_at_call_of 9 (Value.slice a2 m.length cp2)
           refine (lines_any a2 cp2 m s cs mb me _ huw hm q2 (by omega) q5).mono ?_
           rintro e w6 ⟨d2, rfl, hb6, ho6⟩
           have S2 := StrsAt.of_owns ho6
           replace S1 := StrsAt.below S1 hb6
           replace ht3 := TmsAt.upd ht3 (false_upd hb6) (fun _ _ h => h)
           replace hHw := (false_upd hb6).heap hHw (fun h => h)
           replace hBw := hBw.trans (hb6.mono hBw.size)
           clear ho6 huw hb6)
        | (go_at_call_of 9 (Value.slice a3 (l.length + m.length) cp3)
           rw [← hAL]
           refine (lines_any a3 cp3 al s cs mb me _ ht3 hm q2 hl80 hal).mono ?_
           rintro e w7 ⟨d3, rfl, hb7, ho7⟩
           have S3 := StrsAt.of_owns ho7
           replace S1 := StrsAt.below S1 hb7
           replace S2 := StrsAt.below S2 hb7
           replace hBw := hBw.trans (hb7.mono hBw.size)
           clear ho7 ht3 hb7 hHw
           generalize expLines s mb me l = A at *
           generalize expLines s mb me m = B at *
           generalize expLines s mb me al = C at *
           obtain ⟨x1, c1, rfl, hx1⟩ := S1
           obtain ⟨x2, c2, rfl, hx2⟩ := S2
           obtain ⟨x3, c3, rfl, hx3⟩ := S3
           obtain ⟨hA0, hB0, hC0, hS0, t1, t2, t3, t4⟩ := H3.out.facts
           have Hx1 := Lib.hid hx1
           have Hx2 := Lib.hid hx2
           have Hx3 := Lib.hid hx3
           clear hx1 hx2 hx3)
        | (with_reducible refine stopLd 25 _ rfl ?_; unfold Stop; refine wpList_load_row rfl 25 _ rfl w.heap.size rfl 25 cs (0, 0) _ hHw rfl rfl (by rw [hm.size]; kernel_rfl) ?_)
        | (rw [t1]) | (rw [t2]) | (rw [t3]) | (rw [t4]))
      clear hal hl80
      go_loop [16, 17, 18] (fun i x y => ∃ (j : Nat), j ≤ C.length ∧ i = .int .i64 j) (fun i x y => C.length - (intOf i).toNat)
      case atStart => exact ⟨0, by omega, rfl⟩
      case round =>
        obtain ⟨j, hj, rfl⟩ := hrel
        by_cases hlt : j < C.length
        · obtain ⟨b3, o3, rfl, hc3⟩ := Hx3.out j hlt
          by_cases hje : j + 1 < A.length
          · obtain ⟨b1, o1, rfl, hc1⟩ := Hx1.out j (by omega)
            rw [H3.out.early j hje hlt] at hc3
            obtain ⟨P, hP⟩ : ∃ P, strV A[j] = .string P := ⟨_, rfl⟩
            rw [hP] at hc1 hc3
            clear hP
            go_wp2_with fail
            go_round
            case rel => exact ⟨j + 1, by omega, by go_num⟩
            case measure => simp [intOf]; omega
          · obtain ⟨q, hq⟩ : ∃ q : Nat, j + 1 = A.length + q := ⟨j + 1 - A.length, by omega⟩
            have hqI : (j : Int) - A.length + 1 = (q : Int) := by omega
            have hqb : q < B.length := by omega
            obtain ⟨b2, o2, rfl, hc2⟩ := Hx2.out q hqb
            obtain ⟨R, hR⟩ : ∃ R, B[q] = R := ⟨_, rfl⟩
            have hRl : R.length ≤ 1000000 := hR ▸ H3.out.sb _ (List.getElem_mem hqb)
            by_cases hq0 : q = 0
            · have hjA : j < A.length := by omega
              obtain ⟨b1, o1, rfl, hc1⟩ := Hx1.out j hjA
              obtain ⟨P, hP⟩ : ∃ P, A[j] = P := ⟨_, rfl⟩
              have hPl : P.length ≤ 1000000 := hP ▸ H3.out.sa _ (List.getElem_mem hjA)
              have hm0 := H3.out.mid j (by omega) hlt hB0
              subst hq0
              rw [Nat.add_zero] at hc2
              rw [hm0, hP, hR] at hc3
              rw [hP] at hc1
              rw [hR] at hc2
              clear hm0 hP hR
              unfold strV at hc1 hc2 hc3
              rw [← bytes_cat] at hc3
              have hPs : (⟨P.toArray⟩ : ByteArray).size ≤ 1000000 := by simpa [ByteArray.size] using hPl
              have hRs : (⟨R.toArray⟩ : ByteArray).size ≤ 1000000 := by simpa [ByteArray.size] using hRl
              generalize (⟨P.toArray⟩ : ByteArray) = PA at *
              generalize (⟨R.toArray⟩ : ByteArray) = RA at *
              go_wp2_with (first | (rw [hqI]))
              go_round
              case rel => exact ⟨j + 1, by omega, by go_num⟩
              case measure => simp [intOf]; omega
            · have hl0 := H3.out.late j (by omega) hlt (by omega)
              have e : j + 1 - A.length = q := by omega
              simp only [e] at hl0
              rw [hl0, hR] at hc3
              rw [hR] at hc2
              clear hl0 hR e
              unfold strV at hc2 hc3
              have hRs : (⟨R.toArray⟩ : ByteArray).size ≤ 1000000 := by simpa [ByteArray.size] using hRl
              generalize (⟨R.toArray⟩ : ByteArray) = RA at *
              have hE : (⟨#[]⟩ : ByteArray) ++ RA = RA := by apply ByteArray.ext; simp [ByteArray.data_append]
              go_wp2_with (first | (rw [hqI]) | (rw [hE]))
              go_round
              case rel => exact ⟨j + 1, by omega, by go_num⟩
              case measure => simp [intOf]; omega
        · obtain rfl : j = C.length := by omega
          go_wp2
          go_ret
          exact ⟨rfl, hBw⟩

set_option maxRecDepth 100000 in
theorem expandParts_law {w : World} (a : Option Addr) (cp : Nat) (l : List Tm) (ht : TmsAt w a l) (hn : l.length ≤ maxLen) (hx : ∀ t ∈ l, t.text.size ≤ 140737488351232) (a2 : Option Addr) (cp2 : Nat) (m : List Tm) (ht2 : TmsAt w a2 m) (hn2 : m.length ≤ maxLen) (hx2 : ∀ t ∈ m, t.text.size ≤ 140737488351232)
    (s : ByteArray) (hs : s.size ≤ 140737488351232) (cs : Array Value) (mb me : Nat → Int) (hm : IsMatch cs mb me) :
    Calls Try.prog 6 #[tmsV a l.length cp, tmsV a2 m.length cp2, .string s, .agg cs] w fun e w' => e = .returned (.bool true) ∧ Below w.heap.size w w' := by
  cases hv : heavyB l s
  · cases hv2 : heavyB m s
    · exact expandParts_in a cp l ht hn hx a2 cp2 m ht2 hn2 hx2 s hs cs mb me hm hv hv2
    · have Hv := Lib.hid hv; clear hv
      have Hv2 := Lib.hid hv2; clear hv2
      unfold tmsV
      go_enter Try.func6, Try.ntmps6
      go_wp2_with (first
        | (go_at_call_of 10 (Value.slice a l.length cp)
           obtain ⟨hH, hB, hsz⟩ := match_new w cs 25
           have ht0 := TmsAt.upd ht (false_upd hB) (fun _ _ h => h)
           have hu0 := TmsAt.upd ht2 (false_upd hB) (fun _ _ h => h)
           generalize w.alloc (.cells cs 25) = W0 at *
           refine (heavy_all a cp l s _ ht0 hn hs hx).mono ?_; rw [Hv.out]; rintro e w1 ⟨rfl, rfl⟩)
        | (go_at_call_of 10 (Value.slice a2 m.length cp2)
           refine (heavy_all a2 cp2 m s _ hu0 hn2 hs hx2).mono ?_; rw [Hv2.out]; rintro e w1 ⟨rfl, rfl⟩)
        | (go_at_call 8; refine (known_any _).mono ?_; rintro e W1 ⟨rfl, hq⟩))
      go_ret
      exact ⟨rfl, hB.trans (hq.mono hB.size)⟩
  · have Hv := Lib.hid hv; clear hv
    unfold tmsV
    go_enter Try.func6, Try.ntmps6
    go_wp2_with (first
      | (go_at_call_of 10 (Value.slice a l.length cp)
         obtain ⟨hH, hB, hsz⟩ := match_new w cs 25
         have ht0 := TmsAt.upd ht (false_upd hB) (fun _ _ h => h)
         generalize w.alloc (.cells cs 25) = W0 at *
         refine (heavy_all a cp l s _ ht0 hn hs hx).mono ?_; rw [Hv.out]; rintro e w1 ⟨rfl, rfl⟩)
      | (go_at_call 8; refine (known_any _).mono ?_; rintro e W1 ⟨rfl, hq⟩))
    go_ret
    exact ⟨rfl, hB.trans (hq.mono hB.size)⟩
end Go.Proofs.Ytalgdihaeglleaa
