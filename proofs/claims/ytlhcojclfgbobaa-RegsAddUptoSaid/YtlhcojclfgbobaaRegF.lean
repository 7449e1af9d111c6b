/- Contract of both of package regs: one behind the other. -/
import Derived.Test.YtlhcojclfgbobaaRegE
import Derived.Deep.Upon
namespace Go.Proofs.Ytlhcojclfgbobaa
open Go.RowKit

def bothD (a b : RegD) : RegD :=
  if a.whole || b.whole then ⟨a.lines ++ b.lines, true⟩ else ⟨a.lines.dropLast ++ [a.lines.getLastD [] ++ b.lines.headD []] ++ b.lines.tail, false⟩
def bothR (a b : RegD) : RegD := bothD a.clone b.clone

theorem OwnReg.base {w : World} {base base' : Nat} {v : Value} {r : RegD} (h : OwnReg w base v r) (hb : base' ≤ base) : OwnReg w base' v r := by
  obtain ⟨lv, rfl, ho⟩ := h
  exact ⟨lv, rfl, ownsRow_base ho (fun g hg => Nat.le_trans hb (ho.lt g hg).1)⟩
theorem OwnReg.upd {F : Nat → Prop} {w w' : World} {base : Nat} {v : Value} {r : RegD} (h : OwnReg w base v r) (hu : Upd F w w') (hF : ∀ k, base ≤ k → k < w.heap.size → ¬ F k) : OwnReg w' base v r := by
  obtain ⟨lv, rfl, ho⟩ := h
  exact ⟨lv, rfl, ownsRow_upd ho hu (fun g hg => hF g (ho.lt g hg).1 (ho.lt g hg).2)⟩
theorem OwnReg.form {w : World} {base : Nat} {v : Value} {r : RegD} (h : OwnReg w base v r) (hn : r.lines ≠ []) : ∃ g cap, v = .agg #[.slice (some ⟨g, 0, none⟩) r.lines.length cap, .bool r.whole] ∧ base ≤ g ∧ g < w.heap.size ∧ w.ownsRow base 9 1 (.slice (some ⟨g, 0, none⟩) r.lines.length cap) r.lines.length (strsV r.lines) := by
  obtain ⟨lv, rfl, ho⟩ := h
  obtain ⟨g, cap, rfl, h1, h2⟩ := ho.form (List.length_pos_iff.2 hn)
  exact ⟨g, cap, rfl, h1, h2, ho⟩

theorem OwnReg.lt {w : World} {base g n c : Nat} {x : Value} {r : RegD} (h : OwnReg w base (.agg #[.slice (some ⟨g, 0, none⟩) n c, x]) r) : g < w.heap.size := by
  obtain ⟨lv, e, ho⟩ := h
  have e1 : lv = .slice (some ⟨g, 0, none⟩) n c := by
    simp only [Value.agg.injEq, Array.mk.injEq, List.cons.injEq] at e
    exact e.1.symm
  subst e1
  exact (ho.lt g rfl).2

theorem sumL_mem {xs : List (List UInt8)} {x : List UInt8} (h : x ∈ xs) : x.length ≤ sumL xs := by
  induction xs with
  | nil => cases h
  | cons y ys ih =>
    have e : sumL (y :: ys) = y.length + sumL ys := by simp [sumL]
    rcases List.mem_cons.1 h with rfl | h
    · omega
    · have := ih h; omega
theorem RegD.clone_size {r : RegD} {n : Nat} (h : sizeR r ≤ n) (hn : 1 ≤ n) : sizeR r.clone ≤ n := by
  unfold RegD.clone
  split
  · simpa [sizeR, sumL] using hn
  · exact h
theorem RegD.clone_len {r : RegD} {n : Nat} (h : r.lines.length ≤ n) (hn : 1 ≤ n) : r.clone.lines.length ≤ n := by
  unfold RegD.clone
  split
  · simpa using hn
  · exact h

/-- A block of two cells written anew. -/
theorem store_two {w : World} {b : Nat} {a0 a1 : Value} {T : TypeId} (h : w.heap[b]? = some (.cells #[a0, a1] T (0, 0))) (v0 v1 : Value) : ∃ W, (w.setCell ⟨b, 0, none⟩ v0).setCell ⟨b, 1, none⟩ v1 = W ∧ W.heap[b]? = some (.cells #[v0, v1] T (0, 0)) ∧ Upd (fun k => k = b) w W ∧ W.heap.size = w.heap.size := by
  refine ⟨_, rfl, heap_set (heap_set h 0 v0) 1 v1, ?_, by simp [World.setCell]⟩
  exact ((Upd.refl (fun k => k = b) w).setCell (p := ⟨b, 0, none⟩) (fun _ => rfl) _).setCell (p := ⟨b, 1, none⟩) (fun _ => rfl) _

theorem ownsRow_last {w : World} {base : Nat} {e : TypeId} {g cap n : Nat} {xs : List Value} {u v : Value} (h : w.ownsRow base e 1 (.slice (some ⟨g, 0, none⟩) (n + 1) cap) (n + 1) (xs ++ [u])) :
    (w.setCell ⟨g, n, none⟩ v).ownsRow base e 1 (.slice (some ⟨g, 0, none⟩) (n + 1) cap) (n + 1) (xs ++ [v]) := by
  obtain ⟨h1, h2⟩ := h
  rcases h2 with ⟨h, _⟩ | ⟨g', cap', cur, hv, hb, hg, hnc, hm, hsz, htk⟩
  · cases h
  · simp only [Value.slice.injEq, Option.some.injEq, Addr.mk.injEq] at hv
    obtain ⟨⟨rfl, _⟩, _, rfl⟩ := hv
    have hl : xs.length = n := by simpa using h1
    refine ⟨by simp [hl], .inr ⟨g, cap, cur.setIfInBounds n v, rfl, hb, heap_set hg n v, hnc, hm, by simpa using hsz, ?_⟩⟩
    have hlt : n < cur.toList.length := by simp; omega
    simp only [Nat.mul_one] at htk ⊢
    apply List.ext_getElem?
    intro i
    have hti : (cur.toList.take (n + 1))[i]? = (xs ++ [u])[i]? := by rw [htk]
    rcases Nat.lt_trichotomy i n with hi | rfl | hi
    · rw [List.getElem?_take_of_lt (by omega)] at hti ⊢
      rw [List.getElem?_append_left (by omega)] at hti ⊢
      rw [← hti]
      simp only [Array.getElem?_toList]
      rw [Array.getElem?_setIfInBounds_ne (by omega)]
    · rw [List.getElem?_take_of_lt (by omega), List.getElem?_append_right (by omega)]
      simp only [Array.getElem?_toList, hl, Nat.sub_self, List.getElem?_cons_zero]
      rw [Array.getElem?_setIfInBounds_self_of_lt (by simpa using hlt)]
    · rw [List.getElem?_eq_none (by simp; omega), List.getElem?_eq_none (by simp; omega)]

theorem strsV_get (xs : List (List UInt8)) (j : Nat) (h : j < xs.length) : (strsV xs)[j]? = some (strV xs[j]) := by simp [strsV, h]
theorem own_cap {w : World} {base n c : Nat} {e : TypeId} {g : Nat} {xs : List Value} (h : w.ownsRow base e 1 (.slice (some ⟨g, 0, none⟩) n c) n xs) : n ≤ c := by
  rcases h.2 with ⟨h, _⟩ | ⟨g', cap, cur, e, _, _, hc, _⟩
  · cases h
  · cases e
    exact hc
theorem bytes_cat (a b : List UInt8) : (⟨a.toArray⟩ : ByteArray) ++ ⟨b.toArray⟩ = ⟨(a ++ b).toArray⟩ := by
  apply ByteArray.ext
  simp [ByteArray.data_append]

theorem strs_cells {w : World} {base n c : Nat} {e : TypeId} {g : Nat} {xs : List (List UInt8)} (h : w.ownsRow base e 1 (.slice (some ⟨g, 0, none⟩) n c) n (strsV xs)) (i : Nat) (x : List UInt8) (hx : xs[i]? = some x) : w.cell? ⟨g, i, none⟩ = some (.string ⟨x.toArray⟩) := by
  obtain ⟨sa, sc, se, sh⟩ := StrsAt.of_owns h
  cases se
  obtain ⟨hi, rfl⟩ := List.getElem?_eq_some_iff.1 hx
  obtain ⟨b', o', e, hc⟩ := sh i hi
  simp only [Option.some.injEq, Addr.mk.injEq, and_true] at e
  obtain ⟨rfl, rfl⟩ := e
  rw [Nat.zero_add] at hc
  exact hc

/-- Three blocks of two cells, new. -/
theorem three_new (w : World) (c1 c2 c3 : Array Value) (T : TypeId) : ∃ W, ((w.alloc (.cells c1 T)).alloc (.cells c2 T)).alloc (.cells c3 T) = W ∧ W.heap[w.heap.size]? = some (.cells c1 T (0, 0)) ∧ W.heap[w.heap.size + 1]? = some (.cells c2 T (0, 0)) ∧
    W.heap[w.heap.size + 1 + 1]? = some (.cells c3 T (0, 0)) ∧ Below w.heap.size w W ∧ W.heap.size = w.heap.size + 3 := by
  refine ⟨_, rfl, heap_old (heap_old (heap_alloc_new w _) _) _, heap_old (heap_new2 w _ _ _) _, ?_, below_three _ _ _ _, by simp⟩
  have := heap_alloc_new ((w.alloc (.cells c1 T)).alloc (.cells c2 T)) (.cells c3 T)
  rwa [show ((w.alloc (.cells c1 T)).alloc (.cells c2 T)).heap.size = w.heap.size + 1 + 1 by simp] at this

set_option maxHeartbeats 2000000 in
set_option maxRecDepth 100000 in
theorem both_any (va vb : Value) (a b : RegD) (w : World) (ha : RegAt w va a) (hb : RegAt w vb b) (hsa' : sizeR a ≤ 1000000000) (hsb' : sizeR b ≤ 1000000000) :
    Calls Try.prog 40 #[va, vb] w fun e w' => ∃ u, e = .returned u ∧ OwnReg w' w.heap.size u (bothR a b) ∧ Below w.heap.size w w' := by
  obtain ⟨la, rfl, hsa⟩ := ha
  obtain ⟨lb, rfl, hsb⟩ := hb
  have hA : RegAt w (.agg #[la, .bool a.whole]) a := ⟨la, rfl, hsa⟩
  have hB : RegAt w (.agg #[lb, .bool b.whole]) b := ⟨lb, rfl, hsb⟩
  obtain ⟨xa, ca, rfl, _⟩ := hsa
  obtain ⟨xb, cb, rfl, _⟩ := hsb
  unfold bothR
  have hla : a.lines.length ≤ 1000000000 := by unfold sizeR at hsa'; omega
  have hlb : b.lines.length ≤ 1000000000 := by unfold sizeR at hsb'; omega
  have hcsa := RegD.clone_size hsa' (by omega)
  have hcsb := RegD.clone_size hsb' (by omega)
  have hna := a.clone_ne
  have hnb := b.clone_ne
  have Hla := Lib.hid hla
  have Hlb := Lib.hid hlb
  obtain ⟨A, hcA⟩ : ∃ A, a.clone = A := ⟨_, rfl⟩
  obtain ⟨B, hcB⟩ : ∃ B, b.clone = B := ⟨_, rfl⟩
  rw [hcA, hcB]
  rw [hcA] at hcsa hna
  rw [hcB] at hcsb hnb
  have HcA := Lib.hid hcA
  have HcB := Lib.hid hcB
  clear hcA hcB
  obtain ⟨xs, wa⟩ := A
  obtain ⟨ys, wb⟩ := B
  simp only at hna hnb
  have hla2 : xs.length + sumL xs ≤ 1000000000 := hcsa
  have hlb2 : ys.length + sumL ys ≤ 1000000000 := hcsb
  have Hma : Hid (∀ x ∈ xs, x.length ≤ 1000000000) := Lib.hid (fun x hx => by have := sumL_mem hx; omega)
  have Hmb : Hid (∀ x ∈ ys, x.length ≤ 1000000000) := Lib.hid (fun x hx => by have := sumL_mem hx; omega)
  have hla' : xs.length ≤ 1000000000 := by omega
  have hlb' : ys.length ≤ 1000000000 := by omega
  clear hla2 hlb2 hcsa hcsb
  go_enter Try.func40, Try.ntmps40
  go_wp2
  obtain ⟨W1, hW, k0, k1, k2, hBW, hsz⟩ := three_new w #[Value.slice xa a.lines.length ca, Value.bool a.whole] #[Value.slice xb b.lines.length cb, Value.bool b.whole] #[Value.slice none 0 0, Value.bool false] 24
  rw [hW]
  clear hW
  have HA := Lib.hid (hA.below hBW)
  have HB := Lib.hid (hB.below hBW)
  have K0 := Lib.hid k0
  have K1 := Lib.hid k1
  have K2 := Lib.hid k2
  have d0 := cell_of k0 0 (v := .slice xa a.lines.length ca) rfl
  have d1 := cell_of k0 1 (v := .bool a.whole) rfl
  have e0 := cell_of k1 0 (v := .slice xb b.lines.length cb) rfl
  have e1 := cell_of k1 1 (v := .bool b.whole) rfl
  have D0 := Lib.hid d0
  have D1 := Lib.hid d1
  have E0 := Lib.hid e0
  have E1 := Lib.hid e1
  clear hA hB k0 k1 k2 d0 d1 e0 e1
  refine wp_region_seq (fun v => Upd (fun _ => False) W1 v) (fun i => i != 4 && i != 5) [(0, true), (2, true), (1, false), (3, false), (4, false), (5, false)] (by exact rfl) (by kernel_rfl) (by intro c a d v w h; cases d <;> exact h) ?_
  have hS : Upd (fun _ => False) W1 W1.drew := (Upd.refl _ _).drew
  (apply seq_val (o := { dst := some 5, op := Op.load 24 (Operand.tmp 2), type := 24, pos := "regs.go:49", after := #[], guard := none }) rfl (by rfl); (focus (intro w' hS'; have s0 := hS'.cell D0.out (fun h => h); have s1 := hS'.cell D1.out (fun h => h); have s2 := hS'.cell E0.out (fun h => h); have s3 := hS'.cell E1.out (fun h => h); go_simp; (first | done | exact rfl | (rw [if_pos (by omega)]; done)))); (focus exact hS))
  (try simp only [Act.put, List.setIfInBounds_toArray, List.set_cons_zero, List.set_cons_succ])
  (apply seq_val (o := { dst := some 7, op := Op.load 24 (Operand.tmp 3), type := 24, pos := "regs.go:49", after := #[], guard := none }) rfl (by rfl); (focus (intro w' hS'; have s0 := hS'.cell D0.out (fun h => h); have s1 := hS'.cell D1.out (fun h => h); have s2 := hS'.cell E0.out (fun h => h); have s3 := hS'.cell E1.out (fun h => h); go_simp; (first | done | exact rfl | (rw [if_pos (by omega)]; done)))); (focus exact hS))
  (try simp only [Act.put, List.setIfInBounds_toArray, List.set_cons_zero, List.set_cons_succ])
  apply seq_call (o := { dst := some 6, op := Op.call { callee := Callee.value (Operand.func 26), args := #[Operand.tmp 5], argTypes := #[24] }, type := 24, pos := "regs.go:49", after := #[{ on := 0, ground := Ground.data }], guard := none }) (fun v w' => OwnReg w' W1.heap.size v ⟨xs, wa⟩ ∧ Upd (fun _ => False) W1 w') rfl (by rfl)
  focus (go_simp; (first | done | exact rfl | exact ⟨rfl, rfl⟩))
  focus (refine (clone_any _ a _ (HA.out.upd hS (fun _ h => h.elim)) (by have := Hla.out; omega)).mono ?_; rintro e w' ⟨u, rfl, ho, hb⟩; rw [HcA.out] at ho; exact ⟨u, rfl, ho.base hS.size, hS.trans (false_upd hb)⟩)
  rintro v1 w2 ⟨ho1, hS2⟩; clear hS; have hS := hS2; clear hS2; refine ⟨fun _ => hS, ?_⟩
  (try simp only [Act.put, List.setIfInBounds_toArray, List.set_cons_zero, List.set_cons_succ])
  apply seq_call (o := { dst := some 8, op := Op.call { callee := Callee.value (Operand.func 26), args := #[Operand.tmp 7], argTypes := #[24] }, type := 24, pos := "regs.go:49", after := #[{ on := 2, ground := Ground.data }, { on := 1, ground := Ground.chain }], guard := none }) (fun v w' => OwnReg w' W1.heap.size v1 ⟨xs, wa⟩ ∧ OwnReg w' w2.heap.size v ⟨ys, wb⟩ ∧ Upd (fun _ => False) W1 w' ∧ w2.heap.size ≤ w'.heap.size) rfl (by rfl)
  focus (go_simp; (first | done | exact rfl | exact ⟨rfl, rfl⟩))
  focus (refine (clone_any _ b _ (HB.out.upd hS (fun _ h => h.elim)) (by have := Hlb.out; omega)).mono ?_; rintro e w' ⟨u, rfl, ho, hb⟩; rw [HcB.out] at ho; exact ⟨u, rfl, ho1.upd (false_upd hb) (fun _ _ _ h => h), ho, hS.trans (false_upd hb), hb.size⟩)
  rintro v2 w3 ⟨ho1b, ho2, hS2, hsz2⟩; have hsw2 := hS.size; clear hS; have hS := hS2; clear hS2; obtain ⟨g1, c1, rfl, hg1, hl1, o1⟩ := ho1b.form hna; have hlt1 := ho1.lt; obtain ⟨g2, c2, rfl, hg2, hl2, o2⟩ := ho2.form hnb; refine ⟨fun _ => hS, ?_⟩
  (try simp only [Act.put, List.setIfInBounds_toArray, List.set_cons_zero, List.set_cons_succ])
  refine seq_loud (o := { dst := none, op := Op.store 24 (Operand.tmp 2) (Operand.tmp 6), type := 0, pos := "regs.go:49", after := #[{ on := 1, ground := Ground.data }, { on := 3, ground := Ground.chain }, { on := 0, ground := Ground.phase }, { on := 1, ground := Ground.phase }, { on := 2, ground := Ground.textOnly Departure.lateStores }, { on := 3, ground := Ground.textOnly Departure.lateStoresUnsure }], guard := none }) rfl (fun K hK => ?_)
  have s0 := hS.cell D0.out (fun h => h); have s1 := hS.cell D1.out (fun h => h); have z0 := free_of (hS.heap K0.out (fun h => h)) 0; have z1 := free_of (hS.heap K0.out (fun h => h)) 1; go_simp; refine hK _ _ (fun e => by cases e) ?_; clear hK K s0 s1 z0 z1
  (try simp only [Act.put, List.setIfInBounds_toArray, List.set_cons_zero, List.set_cons_succ])
  refine seq_loud (o := { dst := none, op := Op.store 24 (Operand.tmp 3) (Operand.tmp 8), type := 0, pos := "regs.go:49", after := #[{ on := 3, ground := Ground.data }, { on := 4, ground := Ground.chain }, { on := 0, ground := Ground.phase }, { on := 1, ground := Ground.phase }, { on := 2, ground := Ground.phase }, { on := 3, ground := Ground.phase }, { on := 4, ground := Ground.phase }], guard := none }) rfl (fun K hK => ?_)
  have s0 := hS.cell E0.out (fun h => h); have s1 := hS.cell E1.out (fun h => h); have z0 := free_of (hS.heap K1.out (fun h => h)) 0; have z1 := free_of (hS.heap K1.out (fun h => h)) 1; go_simp; refine hK _ _ (fun e => by cases e) ?_; clear hK K s0 s1 z0 z1
  (try simp only [Act.put, List.setIfInBounds_toArray, List.set_cons_zero, List.set_cons_succ])
  refine seq_nil ?_
  obtain ⟨W4, hW4, k0, hu4, hz4⟩ := store_two (hS.heap K0.out (fun h => h)) (Value.slice (some ⟨g1, 0, none⟩) xs.length c1) (Value.bool wa)
  rw [hW4]
  obtain ⟨W5, hW5, k1, hu5, hz5⟩ := store_two (hu4.heap (hS.heap K1.out (fun h => h)) (by omega)) (Value.slice (some ⟨g2, 0, none⟩) ys.length c2) (Value.bool wb)
  rw [hW5]
  have k2 := hu5.heap (hu4.heap (hS.heap K2.out (fun h => h)) (by omega)) (by omega)
  replace k0 := hu5.heap k0 (by omega)
  replace o1 := ownsRow_upd (ownsRow_upd o1 hu4 (fun g hg => by have := (o1.lt g hg).1; omega)) hu5 (fun g hg => by have := (o1.lt g hg).1; omega)
  have hsw := hS.size
  replace o2 := ownsRow_upd (ownsRow_upd o2 hu4 (fun g hg => by simp [Value.ownBlock] at hg; omega)) hu5 (fun g hg => by simp [Value.ownBlock] at hg; omega)
  have hB5 : Below w.heap.size w W5 := ((hBW.trans (hS.below (B := w.heap.size) (by omega) (fun _ _ h => h))).trans (hu4.below (by omega) (fun k hk e => by omega))).trans (hu5.below (by omega) (fun k hk e => by omega))
  have hg12 : g1 ≠ g2 := by omega
  clear hW4 hW5 hu4 hu5 hS ho1 ho1b ho2 HA HB K0 K1 K2 D0 D1 E0 E1 hla hlb HcA HcB Hla Hlb
  have hzz : w.heap.size + 3 ≤ W5.heap.size := by omega
  have hg1' : w.heap.size + 3 ≤ g1 := by omega
  have hg2' : w.heap.size + 3 ≤ g2 := by omega
  have hl1' : g1 < W5.heap.size := by omega
  have hl2' : g2 < W5.heap.size := by omega
  clear hz4 hz5 hsw hsz2 hl1 hl2 hg1 hg2 hsw2 hlt1
  simp only at o1 o2
  obtain ⟨i0, hi, hz0, hz1, hz2⟩ := info_parts info_str
  replace o1 := ownsRow_base (base' := w.heap.size) o1 (fun g hg => by have := (o1.lt g hg).1; omega)
  have hnews : ∀ j u, (strsV ys)[j]? = some u → W5.cell? ((⟨g2, 0, none⟩ : Addr).add j) = some u := by
    obtain ⟨sa, sc, se, sh⟩ := StrsAt.of_owns o2
    cases se
    intro j u hj
    have hjn : j < ys.length := by simpa [strsV] using (List.getElem?_eq_some_iff.1 hj).1
    obtain ⟨b', o', e, hc⟩ := sh j hjn
    simp only [Option.some.injEq, Addr.mk.injEq, and_true] at e
    obtain ⟨rfl, rfl⟩ := e
    rw [Addr.add_lit, hc, ← hj]
    simp [strsV, hjn]
  have hny : 0 < ys.length := List.length_pos_iff.2 hnb
  have hnx : 0 < xs.length := List.length_pos_iff.2 hna
  have hone : ∀ u ∈ strsV ys, u.oneCell' = true := by intro u hu; obtain ⟨x, _, rfl⟩ := List.mem_map.1 hu; rfl
  have a0 := cell_of k0 0 (v := .slice (some ⟨g1, 0, none⟩) xs.length c1) rfl
  have b0 := cell_of k1 0 (v := .slice (some ⟨g2, 0, none⟩) ys.length c2) rfl
  have a1 := cell_of k0 1 (v := .bool wa) rfl
  have b1 := cell_of k1 1 (v := .bool wb) rfl
  have Hone := Lib.hid hone
  have Hnews := Lib.hid hnews
  have O1 := Lib.hid o1
  have O2 := Lib.hid o2
  have K2 := Lib.hid k2
  have K0 := Lib.hid k0
  have K1 := Lib.hid k1
  clear hone hnews o1 o2 k2 k0 k1
  cases wa
  · cases wb
    · have hcx := strs_cells O1.out
      have hcy := strs_cells O2.out
      obtain ⟨xs0, p, rfl⟩ : ∃ xs0 p, xs = xs0 ++ [p] := ⟨xs.dropLast, xs.getLast hna, (List.dropLast_concat_getLast hna).symm⟩
      obtain ⟨q, ys0, rfl⟩ : ∃ q ys0, ys = q :: ys0 := by cases ys with | nil => exact absurd rfl hnb | cons q ys0 => exact ⟨q, ys0, rfl⟩
      have hp := Hma.out p (by simp)
      have hq := Hmb.out q (by simp)
      have gp := hcx xs0.length p (by simp)
      have gq := hcy 0 q (by simp)
      have hl1 : (xs0 ++ [p]).length = xs0.length + 1 := by simp
      have hl2 : (q :: ys0).length = ys0.length + 1 := by simp
      rw [hl1] at a0 hla'
      rw [hl2] at b0 hlb'
      have GP := Lib.hid gp
      have GQ := Lib.hid gq
      clear hcx hcy gp gq hna hnb hny hnx Hone Hnews Hma Hmb
      have hwr : IntKind.i64.wrap (xs0.length : Int) = xs0.length := by simp [IntKind.wrap, IntKind.bits, IntKind.signed]; omega
      have hwr0 : (IntKind.i64.wrap (xs0.length : Int)).toNat = xs0.length := by rw [hwr]; omega
      have A0 := Lib.hid a0
      have B0 := Lib.hid b0
      clear a0 b0
      go_wp2
      rw [hl1, hl2]
      refine wp_region_seq (fun v => Upd (fun _ => False) W5 v) (fun i => i != 14) [(0, true), (1, true), (2, true), (3, true), (4, true), (5, true), (6, true), (7, true), (8, true), (9, true), (10, true), (11, true), (12, true), (13, true), (14, false)] (by exact rfl) (by kernel_rfl) (by intro c a d v w h; cases d <;> exact h) ?_
      have hS : Upd (fun _ => False) W5 W5.drew := (Upd.refl _ _).drew
      (apply seq_val (o := { dst := some 21, op := Op.fieldAddr 24 (Operand.tmp 2) 0, type := 0, pos := "regs.go:53", after := #[], guard := none }) rfl (by rfl); (focus (intro w' hS'; have s0 := hS'.cell A0.out (fun h => h); have s1 := hS'.cell B0.out (fun h => h); have s2 := hS'.cell GP.out (fun h => h); have s3 := hS'.cell GQ.out (fun h => h); go_simp; (first | done | exact rfl | (rw [if_pos (by omega)]; done)))); (focus exact hS))
      (try simp only [Act.put, List.setIfInBounds_toArray, List.set_cons_zero, List.set_cons_succ])
      (apply seq_val (o := { dst := some 22, op := Op.load 22 (Operand.tmp 21), type := 22, pos := "regs.go:53", after := #[{ on := 0, ground := Ground.data }], guard := none }) rfl (by rfl); (focus (intro w' hS'; have s0 := hS'.cell A0.out (fun h => h); have s1 := hS'.cell B0.out (fun h => h); have s2 := hS'.cell GP.out (fun h => h); have s3 := hS'.cell GQ.out (fun h => h); go_simp; (first | done | exact rfl | (rw [if_pos (by omega)]; done)))); (focus exact hS))
      (try simp only [Act.put, List.setIfInBounds_toArray, List.set_cons_zero, List.set_cons_succ])
      (apply seq_val (o := { dst := some 23, op := Op.fieldAddr 24 (Operand.tmp 2) 0, type := 0, pos := "regs.go:53", after := #[], guard := none }) rfl (by rfl); (focus (intro w' hS'; have s0 := hS'.cell A0.out (fun h => h); have s1 := hS'.cell B0.out (fun h => h); have s2 := hS'.cell GP.out (fun h => h); have s3 := hS'.cell GQ.out (fun h => h); go_simp; (first | done | exact rfl | (rw [if_pos (by omega)]; done)))); (focus exact hS))
      (try simp only [Act.put, List.setIfInBounds_toArray, List.set_cons_zero, List.set_cons_succ])
      (apply seq_val (o := { dst := some 24, op := Op.load 22 (Operand.tmp 23), type := 22, pos := "regs.go:53", after := #[{ on := 2, ground := Ground.data }], guard := none }) rfl (by rfl); (focus (intro w' hS'; have s0 := hS'.cell A0.out (fun h => h); have s1 := hS'.cell B0.out (fun h => h); have s2 := hS'.cell GP.out (fun h => h); have s3 := hS'.cell GQ.out (fun h => h); go_simp; (first | done | exact rfl | (rw [if_pos (by omega)]; done)))); (focus exact hS))
      (try simp only [Act.put, List.setIfInBounds_toArray, List.set_cons_zero, List.set_cons_succ])
      (apply seq_val (o := { dst := some 25, op := Op.call { callee := Callee.builtin Builtin.len, args := #[Operand.tmp 24], argTypes := #[22] }, type := 3, pos := "regs.go:53", after := #[{ on := 3, ground := Ground.data }], guard := none }) rfl (by rfl); (focus (intro w' hS'; have s0 := hS'.cell A0.out (fun h => h); have s1 := hS'.cell B0.out (fun h => h); have s2 := hS'.cell GP.out (fun h => h); have s3 := hS'.cell GQ.out (fun h => h); go_simp; (first | done | exact rfl | (rw [if_pos (by omega)]; done)))); (focus exact hS))
      (try simp only [Act.put, List.setIfInBounds_toArray, List.set_cons_zero, List.set_cons_succ])
      (apply seq_val (o := { dst := some 26, op := Op.binOp BinOp.sub 3 (Operand.tmp 25) (Operand.const (Value.int IntKind.i64 1)) 3, type := 3, pos := "regs.go:53", after := #[{ on := 4, ground := Ground.data }], guard := none }) rfl (by rfl); (focus (intro w' hS'; have s0 := hS'.cell A0.out (fun h => h); have s1 := hS'.cell B0.out (fun h => h); have s2 := hS'.cell GP.out (fun h => h); have s3 := hS'.cell GQ.out (fun h => h); go_simp; (first | done | exact rfl | (rw [if_pos (by omega)]; done)))); (focus exact hS))
      (try simp only [Act.put, List.setIfInBounds_toArray, List.set_cons_zero, List.set_cons_succ])
      (apply seq_val (o := { dst := some 27, op := Op.indexAddr 22 (Operand.tmp 22) (Operand.tmp 26), type := 0, pos := "regs.go:53", after := #[{ on := 1, ground := Ground.data }, { on := 5, ground := Ground.data }], guard := none }) rfl (by rfl); (focus (intro w' hS'; have s0 := hS'.cell A0.out (fun h => h); have s1 := hS'.cell B0.out (fun h => h); have s2 := hS'.cell GP.out (fun h => h); have s3 := hS'.cell GQ.out (fun h => h); go_simp; (first | done | exact rfl | (rw [if_pos (by omega)]; done)))); (focus exact hS))
      (try simp only [Act.put, List.setIfInBounds_toArray, List.set_cons_zero, List.set_cons_succ])
      (apply seq_val (o := { dst := some 28, op := Op.load 9 (Operand.tmp 27), type := 9, pos := "regs.go:53", after := #[{ on := 6, ground := Ground.data }], guard := none }) rfl (by rfl); (focus (intro w' hS'; have s0 := hS'.cell A0.out (fun h => h); have s1 := hS'.cell B0.out (fun h => h); have s2 := hS'.cell GP.out (fun h => h); have s3 := hS'.cell GQ.out (fun h => h); go_simp; (first | done | exact rfl | (rw [if_pos (by omega)]; done)))); (focus exact hS))
      (try simp only [Act.put, List.setIfInBounds_toArray, List.set_cons_zero, List.set_cons_succ])
      (apply seq_val (o := { dst := some 29, op := Op.fieldAddr 24 (Operand.tmp 3) 0, type := 0, pos := "regs.go:53", after := #[], guard := none }) rfl (by rfl); (focus (intro w' hS'; have s0 := hS'.cell A0.out (fun h => h); have s1 := hS'.cell B0.out (fun h => h); have s2 := hS'.cell GP.out (fun h => h); have s3 := hS'.cell GQ.out (fun h => h); go_simp; (first | done | exact rfl | (rw [if_pos (by omega)]; done)))); (focus exact hS))
      (try simp only [Act.put, List.setIfInBounds_toArray, List.set_cons_zero, List.set_cons_succ])
      (apply seq_val (o := { dst := some 30, op := Op.load 22 (Operand.tmp 29), type := 22, pos := "regs.go:53", after := #[{ on := 8, ground := Ground.data }], guard := none }) rfl (by rfl); (focus (intro w' hS'; have s0 := hS'.cell A0.out (fun h => h); have s1 := hS'.cell B0.out (fun h => h); have s2 := hS'.cell GP.out (fun h => h); have s3 := hS'.cell GQ.out (fun h => h); go_simp; (first | done | exact rfl | (rw [if_pos (by omega)]; done)))); (focus exact hS))
      (try simp only [Act.put, List.setIfInBounds_toArray, List.set_cons_zero, List.set_cons_succ])
      (apply seq_val (o := { dst := some 31, op := Op.indexAddr 22 (Operand.tmp 30) (Operand.const (Value.int IntKind.i64 0)), type := 0, pos := "regs.go:53", after := #[{ on := 9, ground := Ground.data }], guard := none }) rfl (by rfl); (focus (intro w' hS'; have s0 := hS'.cell A0.out (fun h => h); have s1 := hS'.cell B0.out (fun h => h); have s2 := hS'.cell GP.out (fun h => h); have s3 := hS'.cell GQ.out (fun h => h); go_simp; (first | done | exact rfl | (rw [if_pos (by omega)]; done)))); (focus exact hS))
      (try simp only [Act.put, List.setIfInBounds_toArray, List.set_cons_zero, List.set_cons_succ])
      (apply seq_val (o := { dst := some 32, op := Op.load 9 (Operand.tmp 31), type := 9, pos := "regs.go:53", after := #[{ on := 10, ground := Ground.data }], guard := none }) rfl (by rfl); (focus (intro w' hS'; have s0 := hS'.cell A0.out (fun h => h); have s1 := hS'.cell B0.out (fun h => h); have s2 := hS'.cell GP.out (fun h => h); have s3 := hS'.cell GQ.out (fun h => h); go_simp; (first | done | exact rfl | (rw [if_pos (by omega)]; done)))); (focus exact hS))
      (try simp only [Act.put, List.setIfInBounds_toArray, List.set_cons_zero, List.set_cons_succ])
      (apply seq_val (o := { dst := some 33, op := Op.binOp BinOp.add 9 (Operand.tmp 28) (Operand.tmp 32) 9, type := 9, pos := "regs.go:53", after := #[{ on := 7, ground := Ground.data }, { on := 11, ground := Ground.data }], guard := none }) rfl (by rfl); (focus (intro w' hS'; have s0 := hS'.cell A0.out (fun h => h); have s1 := hS'.cell B0.out (fun h => h); have s2 := hS'.cell GP.out (fun h => h); have s3 := hS'.cell GQ.out (fun h => h); go_simp; rw [if_neg (by omega)])); (focus exact hS))
      (try simp only [Act.put, List.setIfInBounds_toArray, List.set_cons_zero, List.set_cons_succ])
      (apply seq_val (o := { dst := some 34, op := Op.indexAddr 22 (Operand.tmp 22) (Operand.tmp 26), type := 0, pos := "regs.go:53", after := #[{ on := 1, ground := Ground.data }, { on := 5, ground := Ground.data }, { on := 0, ground := Ground.phase }, { on := 1, ground := Ground.phase }, { on := 2, ground := Ground.phase }, { on := 3, ground := Ground.phase }, { on := 4, ground := Ground.phase }, { on := 5, ground := Ground.phase }, { on := 6, ground := Ground.phase }, { on := 7, ground := Ground.phase }, { on := 8, ground := Ground.phase }, { on := 9, ground := Ground.phase }, { on := 10, ground := Ground.phase }, { on := 11, ground := Ground.phase }, { on := 12, ground := Ground.phase }], guard := none }) rfl (by rfl); (focus (intro w' hS'; have s0 := hS'.cell A0.out (fun h => h); have s1 := hS'.cell B0.out (fun h => h); have s2 := hS'.cell GP.out (fun h => h); have s3 := hS'.cell GQ.out (fun h => h); go_simp; (first | done | exact rfl | (rw [if_pos (by omega)]; done)))); (focus exact hS))
      (try simp only [Act.put, List.setIfInBounds_toArray, List.set_cons_zero, List.set_cons_succ])
      refine seq_loud (o := { dst := none, op := Op.store 9 (Operand.tmp 34) (Operand.tmp 33), type := 0, pos := "regs.go:53", after := #[{ on := 13, ground := Ground.data }, { on := 12, ground := Ground.data }, { on := 0, ground := Ground.phase }, { on := 1, ground := Ground.phase }, { on := 2, ground := Ground.phase }, { on := 3, ground := Ground.phase }, { on := 4, ground := Ground.phase }, { on := 5, ground := Ground.phase }, { on := 6, ground := Ground.phase }, { on := 7, ground := Ground.phase }, { on := 8, ground := Ground.phase }, { on := 9, ground := Ground.phase }, { on := 10, ground := Ground.phase }, { on := 11, ground := Ground.phase }, { on := 12, ground := Ground.phase }], guard := none }) rfl (fun K hK => ?_)
      have s2 := hS.cell GP.out (fun h => h); have z := ownsRow_free (ownsRow_upd O1.out hS (fun _ _ h => h)) rfl xs0.length; go_simp; refine hK _ _ (fun e => by cases e) ?_; clear hK K
      (try simp only [Act.put, List.setIfInBounds_toArray, List.set_cons_zero, List.set_cons_succ])
      refine seq_nil ?_
      have hO1 := O1.out
      rw [hl1, show strsV (xs0 ++ [p]) = strsV xs0 ++ [strV p] by simp [strsV]] at hO1
      obtain ⟨W6, hW6, o1, hu6⟩ : ∃ W6, (W5.setCell ⟨g1, xs0.length, none⟩ (.string (⟨p.toArray⟩ ++ ⟨q.toArray⟩))).drew = W6 ∧ W6.ownsRow w.heap.size 9 1 (.slice (some ⟨g1, 0, none⟩) (xs0.length + 1) c1) (xs0.length + 1) (strsV xs0 ++ [.string (⟨p.toArray⟩ ++ ⟨q.toArray⟩)]) ∧ Upd (fun k => k = g1) W5 W6 :=
        ⟨_, rfl, ownsRow_upd (ownsRow_last hO1) (Upd.refl (fun _ => False) _).drew (fun _ _ h => h), ((Upd.refl (fun k => k = g1) W5).setCell (p := ⟨g1, xs0.length, none⟩) (fun _ => rfl) _).drew⟩
      rw [hW6]
      clear hW6 hO1 hS
      have k2 := hu6.heap K2.out (by omega)
      have a0 := hu6.cell A0.out (by show ¬ w.heap.size = g1; omega)
      have b0 := hu6.cell B0.out (by show ¬ w.heap.size + 1 = g1; omega)
      have o2 := ownsRow_upd O2.out hu6 (fun g hg => by simp [Value.ownBlock] at hg; omega)
      have hB6 : Below w.heap.size w W6 := hB5.trans (hu6.below (by omega) (fun k hk e => by omega))
      have hz6 := hu6.size
      clear hu6 K2 A0 B0 O1 O2 K0 K1 GP GQ hwr hwr0 a1 b1 hB5
      have A0 := Lib.hid a0
      have B0 := Lib.hid b0
      have K2 := Lib.hid k2
      have O1 := Lib.hid o1
      have O2 := Lib.hid o2
      clear a0 b0 k2 o1 o2
      go_wp2
      have hcap1 : xs0.length + 1 ≤ c1 := own_cap O1.out
      have hcap2 : ys0.length + 1 ≤ c2 := by have := own_cap O2.out; rwa [hl2] at this
      have hcy := strs_cells O2.out
      have HO2 := hcy
      cases ys0 with
      | nil =>
        obtain ⟨ad, had⟩ : ∃ ad, (if c2 = 1 then some (⟨g2, 0, none⟩ : Addr) else some ⟨g2, 1, none⟩) = some ad := by split; exact ⟨_, rfl⟩; exact ⟨_, rfl⟩
        have hap : ∀ (W : World) (ty : TypeId), (Builtin.append_ #[22, 22] ty #[.slice (some ⟨g1, 0, none⟩) (xs0.length + 1) c1, .slice (some ad) 0 (c2 - 1)]).run Try.prog W = .ok (.slice (some ⟨g1, 0, none⟩) (xs0.length + 1) c1) W := fun W ty =>
          run_append_nothing W _ _ ty 9 i0 Try.underlying22 hi _ _ _ hcap1 _ (Src.ofSlice W Try.underlying22 ad 0 (c2 - 1) [] (by simp) (by simp) (by simp))
        clear hcy HO2 hl2 O2 hlb'
        refine wp_region_seq (fun v => Upd (fun _ => False) W6 v) (fun i => i != 7) [(0, true), (1, true), (2, true), (3, true), (4, true), (5, false), (6, true), (7, false)] (by exact rfl) (by kernel_rfl) (by intro c a d v w h; cases d <;> exact h) ?_
        have hS : Upd (fun _ => False) W6 W6.drew := (Upd.refl _ _).drew
        (apply seq_val (o := { dst := some 35, op := Op.fieldAddr 24 (Operand.tmp 2) 0, type := 0, pos := "regs.go:54", after := #[], guard := none }) rfl (by rfl); (focus (intro w' hS'; have s0 := hS'.cell A0.out (fun h => h); have s1 := hS'.cell B0.out (fun h => h); go_simp; (first | done | exact rfl | (rw [if_pos (by omega)]; done)))); (focus exact hS))
        (try simp only [Act.put, List.setIfInBounds_toArray, List.set_cons_zero, List.set_cons_succ])
        (apply seq_val (o := { dst := some 36, op := Op.load 22 (Operand.tmp 35), type := 22, pos := "regs.go:54", after := #[{ on := 0, ground := Ground.data }], guard := none }) rfl (by rfl); (focus (intro w' hS'; have s0 := hS'.cell A0.out (fun h => h); have s1 := hS'.cell B0.out (fun h => h); go_simp; (first | done | exact rfl | (rw [if_pos (by omega)]; done)))); (focus exact hS))
        (try simp only [Act.put, List.setIfInBounds_toArray, List.set_cons_zero, List.set_cons_succ])
        (apply seq_val (o := { dst := some 37, op := Op.fieldAddr 24 (Operand.tmp 3) 0, type := 0, pos := "regs.go:54", after := #[], guard := none }) rfl (by rfl); (focus (intro w' hS'; have s0 := hS'.cell A0.out (fun h => h); have s1 := hS'.cell B0.out (fun h => h); go_simp; (first | done | exact rfl | (rw [if_pos (by omega)]; done)))); (focus exact hS))
        (try simp only [Act.put, List.setIfInBounds_toArray, List.set_cons_zero, List.set_cons_succ])
        (apply seq_val (o := { dst := some 38, op := Op.load 22 (Operand.tmp 37), type := 22, pos := "regs.go:54", after := #[{ on := 2, ground := Ground.data }], guard := none }) rfl (by rfl); (focus (intro w' hS'; have s0 := hS'.cell A0.out (fun h => h); have s1 := hS'.cell B0.out (fun h => h); go_simp; (first | done | exact rfl | (rw [if_pos (by omega)]; done)))); (focus exact hS))
        (try simp only [Act.put, List.setIfInBounds_toArray, List.set_cons_zero, List.set_cons_succ])
        (apply seq_val (o := { dst := some 39, op := Op.slice 22 (Operand.tmp 38) (some (Operand.const (Value.int IntKind.i64 1))) none none, type := 22, pos := "regs.go:54", after := #[{ on := 3, ground := Ground.data }], guard := none }) rfl (by rfl); (focus (intro w' hS'; have s0 := hS'.cell A0.out (fun h => h); have s1 := hS'.cell B0.out (fun h => h); go_simp; (first | done | exact rfl | (rw [if_pos (by omega)]; done)))); (focus exact hS))
        (try simp only [Act.put, List.setIfInBounds_toArray, List.set_cons_zero, List.set_cons_succ])
        refine seq_loud (o := { dst := some 40, op := Op.call { callee := Callee.builtin Builtin.append, args := #[Operand.tmp 36, Operand.tmp 39], argTypes := #[22, 22] }, type := 22, pos := "regs.go:54", after := #[{ on := 1, ground := Ground.data }, { on := 4, ground := Ground.data }], guard := none }) rfl (fun K hK => ?_)
        go_simp; refine hK _ _ (fun _ => hS) ?_; clear hK K
        (try simp only [Act.put, List.setIfInBounds_toArray, List.set_cons_zero, List.set_cons_succ])
        (apply seq_val (o := { dst := some 41, op := Op.build 24 #[(0, Operand.tmp 40)], type := 24, pos := "regs.go:54", after := #[{ on := 5, ground := Ground.data }], guard := none }) rfl (by rfl); (focus (intro w' hS'; have s0 := hS'.cell A0.out (fun h => h); have s1 := hS'.cell B0.out (fun h => h); go_simp; (first | done | exact rfl | (rw [if_pos (by omega)]; done)))); (focus exact hS))
        (try simp only [Act.put, List.setIfInBounds_toArray, List.set_cons_zero, List.set_cons_succ])
        refine seq_loud (o := { dst := none, op := Op.store 24 (Operand.tmp 4) (Operand.tmp 41), type := 0, pos := "regs.go:54", after := #[{ on := 6, ground := Ground.data }, { on := 5, ground := Ground.chain }, { on := 0, ground := Ground.phase }, { on := 1, ground := Ground.phase }, { on := 2, ground := Ground.phase }, { on := 3, ground := Ground.phase }, { on := 4, ground := Ground.phase }, { on := 5, ground := Ground.phase }, { on := 6, ground := Ground.phase }], guard := none }) rfl (fun K hK => ?_)
        have z2 := K2.out; have z0 := cell_of z2 0 (v := .slice none 0 0) rfl; have z1 := cell_of z2 1 (v := .bool false) rfl; have f0 := free_of z2 0; have f1 := free_of z2 1; go_simp; refine hK _ _ (fun e => by cases e) ?_; clear hK K
        (try simp only [Act.put, List.setIfInBounds_toArray, List.set_cons_zero, List.set_cons_succ])
        refine seq_nil ?_
        go_wp2
        refine bodyPost_ret (v := .agg #[.slice (some ⟨g1, 0, none⟩) (xs0.length + 1) c1, .bool false]) (results_cell_row Try.results40 _ _ (w.heap.size + 1 + 1) 24 _ (0, 0) _ rfl (heap_two K2.out) Try.underlying24 rfl (by kernel_rfl)) rfl ⟨_, rfl, ⟨_, rfl, ?_⟩, ?_⟩
        · have he : (Value.slice (some ⟨g1, 0, none⟩) (xs0.length + 1) c1).ownBlock ≠ some (w.heap.size + 1 + 1) := by simp [Value.ownBlock]; omega
          have q := ownsRow_set (i := 1) (ownsRow_set (i := 0) O1.out he (.slice (some ⟨g1, 0, none⟩) (xs0.length + 1) c1)) he (.bool false)
          have q2 := ownsRow_upd q (Upd.refl (fun _ => False) _).drew (fun _ _ h => h)
          simpa [bothD, strsV, strV, bytes_cat] using q2
        · exact ((hB6.setCell (by show w.heap.size ≤ w.heap.size + 1 + 1; omega) _).setCell (by show w.heap.size ≤ w.heap.size + 1 + 1; omega) _).drew
      | cons y ys1 =>
        have hc2 : ¬ c2 = 1 := by simp at hcap2; omega
        have hnews : ∀ j u, (strsV (y :: ys1))[j]? = some u → W6.cell? ((⟨g2, 1, none⟩ : Addr).add j) = some u := by
          intro j u hj
          have hjn : j < (y :: ys1).length := by simpa [strsV] using (List.getElem?_eq_some_iff.1 hj).1
          rw [Addr.add_lit, Nat.add_comm 1 j, hcy (j + 1) ((y :: ys1)[j]) (by rw [List.getElem?_cons_succ, List.getElem?_eq_getElem hjn]), ← hj]
          exact (strsV_get _ _ hjn).symm
        have Hnews := Lib.hid hnews
        have hl3 : (y :: ys1).length = ys1.length + 1 := by simp
        rw [hl3] at hcap2 B0 hlb'
        clear hcy HO2 hl2 O2 hnews
        have hone : ∀ u ∈ strsV (y :: ys1), u.oneCell' = true := by intro u hu; obtain ⟨x, _, rfl⟩ := List.mem_map.1 hu; rfl
        have Hone := Lib.hid hone
        clear hone
        refine wp_region_seq (fun v => Upd (fun k => k = g1) W6 v) (fun i => i != 7) [(0, true), (1, true), (2, true), (3, true), (4, true), (5, false), (6, true), (7, false)] (by exact rfl) (by kernel_rfl) (by intro c a d v w h; cases d <;> exact h) ?_
        have hS : Upd (fun k => k = g1) W6 W6.drew := (Upd.refl _ _).drew
        (apply seq_val (o := { dst := some 35, op := Op.fieldAddr 24 (Operand.tmp 2) 0, type := 0, pos := "regs.go:54", after := #[], guard := none }) rfl (by rfl); (focus (intro w' hS'; have s0 := hS'.cell A0.out (by show ¬ w.heap.size = g1; omega); have s1 := hS'.cell B0.out (by show ¬ w.heap.size + 1 = g1; omega); go_simp; (first | done | exact rfl | (rw [if_pos (by omega)]; done)))); (focus exact hS))
        (try simp only [Act.put, List.setIfInBounds_toArray, List.set_cons_zero, List.set_cons_succ])
        (apply seq_val (o := { dst := some 36, op := Op.load 22 (Operand.tmp 35), type := 22, pos := "regs.go:54", after := #[{ on := 0, ground := Ground.data }], guard := none }) rfl (by rfl); (focus (intro w' hS'; have s0 := hS'.cell A0.out (by show ¬ w.heap.size = g1; omega); have s1 := hS'.cell B0.out (by show ¬ w.heap.size + 1 = g1; omega); go_simp; (first | done | exact rfl | (rw [if_pos (by omega)]; done)))); (focus exact hS))
        (try simp only [Act.put, List.setIfInBounds_toArray, List.set_cons_zero, List.set_cons_succ])
        (apply seq_val (o := { dst := some 37, op := Op.fieldAddr 24 (Operand.tmp 3) 0, type := 0, pos := "regs.go:54", after := #[], guard := none }) rfl (by rfl); (focus (intro w' hS'; have s0 := hS'.cell A0.out (by show ¬ w.heap.size = g1; omega); have s1 := hS'.cell B0.out (by show ¬ w.heap.size + 1 = g1; omega); go_simp; (first | done | exact rfl | (rw [if_pos (by omega)]; done)))); (focus exact hS))
        (try simp only [Act.put, List.setIfInBounds_toArray, List.set_cons_zero, List.set_cons_succ])
        (apply seq_val (o := { dst := some 38, op := Op.load 22 (Operand.tmp 37), type := 22, pos := "regs.go:54", after := #[{ on := 2, ground := Ground.data }], guard := none }) rfl (by rfl); (focus (intro w' hS'; have s0 := hS'.cell A0.out (by show ¬ w.heap.size = g1; omega); have s1 := hS'.cell B0.out (by show ¬ w.heap.size + 1 = g1; omega); go_simp; (first | done | exact rfl | (rw [if_pos (by omega)]; done)))); (focus exact hS))
        (try simp only [Act.put, List.setIfInBounds_toArray, List.set_cons_zero, List.set_cons_succ])
        (apply seq_val (o := { dst := some 39, op := Op.slice 22 (Operand.tmp 38) (some (Operand.const (Value.int IntKind.i64 1))) none none, type := 22, pos := "regs.go:54", after := #[{ on := 3, ground := Ground.data }], guard := none }) rfl (by rfl); (focus (intro w' hS'; have s0 := hS'.cell A0.out (by show ¬ w.heap.size = g1; omega); have s1 := hS'.cell B0.out (by show ¬ w.heap.size + 1 = g1; omega); go_simp; (first | done | exact rfl | (rw [if_pos (by omega)]; done)))); (focus exact hS))
        (try simp only [Act.put, List.setIfInBounds_toArray, List.set_cons_zero, List.set_cons_succ])
        refine seq_loud (o := { dst := some 40, op := Op.call { callee := Callee.builtin Builtin.append, args := #[Operand.tmp 36, Operand.tmp 39], argTypes := #[22, 22] }, type := 22, pos := "regs.go:54", after := #[{ on := 1, ground := Ground.data }, { on := 4, ground := Ground.data }], guard := none }) rfl (fun K hK => ?_)
        refine step_append_lies _ rfl _ _ 22 rfl w.heap.size 9 i0 (.string ⟨#[]⟩) 1 16 Try.underlying22 hi hz0 hz1 hz2 rfl (by decide) (.slice (some ⟨g1, 0, none⟩) (xs0.length + 1) c1) (xs0.length + 1) (strsV xs0 ++ [Value.string (⟨p.toArray⟩ ++ ⟨q.toArray⟩)]) rfl (ownsRow_upd O1.out (Upd.refl (fun _ => False) W6).drew (fun _ _ h => h)) ⟨g2, 1, none⟩ (ys1.length + 1) (c2 - 1) (strsV (y :: ys1)) rfl (by simp [strsV]) (fun j u hj => Hnews.out j u hj) Hone.out (by omega) (by unfold maxLen; omega) (by omega) (by show w.heap.size ≤ W6.heap.size; omega) _ rfl ?_; intro g cap w7 ho hg hat hlt; have hS7 : Upd (fun k => k = g1) W6 w7 := (Upd.refl (fun k => k = g1) W6).drew.grown hg (fun k _ e => by simp [Value.ownBlock] at e; exact e.symm); have HO := Lib.hid ho; have HAT := Lib.hid hat; clear ho hg hat hS; have hS := hS7; clear hS7; refine hK _ _ (fun _ => hS) ?_; clear hK K
        (try simp only [Act.put, List.setIfInBounds_toArray, List.set_cons_zero, List.set_cons_succ])
        (apply seq_val (o := { dst := some 41, op := Op.build 24 #[(0, Operand.tmp 40)], type := 24, pos := "regs.go:54", after := #[{ on := 5, ground := Ground.data }], guard := none }) rfl (by rfl); (focus (intro w' hS'; have s0 := hS'.cell A0.out (by show ¬ w.heap.size = g1; omega); have s1 := hS'.cell B0.out (by show ¬ w.heap.size + 1 = g1; omega); go_simp; (first | done | exact rfl | (rw [if_pos (by omega)]; done)))); (focus exact hS))
        (try simp only [Act.put, List.setIfInBounds_toArray, List.set_cons_zero, List.set_cons_succ])
        refine seq_loud (o := { dst := none, op := Op.store 24 (Operand.tmp 4) (Operand.tmp 41), type := 0, pos := "regs.go:54", after := #[{ on := 6, ground := Ground.data }, { on := 5, ground := Ground.chain }, { on := 0, ground := Ground.phase }, { on := 1, ground := Ground.phase }, { on := 2, ground := Ground.phase }, { on := 3, ground := Ground.phase }, { on := 4, ground := Ground.phase }, { on := 5, ground := Ground.phase }, { on := 6, ground := Ground.phase }], guard := none }) rfl (fun K hK => ?_)
        have z2 := hS.heap K2.out (by omega); have z0 := cell_of z2 0 (v := .slice none 0 0) rfl; have z1 := cell_of z2 1 (v := .bool false) rfl; have f0 := free_of z2 0; have f1 := free_of z2 1; go_simp; refine hK _ _ (fun e => by cases e) ?_; clear hK K
        (try simp only [Act.put, List.setIfInBounds_toArray, List.set_cons_zero, List.set_cons_succ])
        refine seq_nil ?_
        go_wp2
        have hgn : g ≠ w.heap.size + 1 + 1 := by
          rcases HAT.out with h | h
          · simp [Value.ownBlock] at h; omega
          · have : g = W6.heap.size := h
            omega
        have hB7 : Below w.heap.size w w7 := hB6.trans (hS.below (by omega) (fun k hk e => by omega))
        refine bodyPost_ret (v := .agg #[.slice (some ⟨g, 0, none⟩) (xs0.length + 1 + (ys1.length + 1)) cap, .bool false]) (results_cell_row Try.results40 _ _ (w.heap.size + 1 + 1) 24 _ (0, 0) _ rfl (heap_two (hS.heap K2.out (by omega))) Try.underlying24 rfl (by kernel_rfl)) rfl ⟨_, rfl, ⟨_, rfl, ?_⟩, ?_⟩
        · have he : (Value.slice (some ⟨g, 0, none⟩) (xs0.length + 1 + (ys1.length + 1)) cap).ownBlock ≠ some (w.heap.size + 1 + 1) := by simpa [Value.ownBlock] using hgn
          have qq := ownsRow_set (i := 1) (ownsRow_set (i := 0) HO.out he (.slice (some ⟨g, 0, none⟩) (xs0.length + 1 + (ys1.length + 1)) cap)) he (.bool false)
          have e1 : (bothD ⟨xs0 ++ [p], false⟩ ⟨q :: y :: ys1, false⟩).lines = xs0 ++ [p ++ q] ++ (y :: ys1) := by simp [bothD]
          have e2 : (xs0 ++ [p ++ q] ++ (y :: ys1)).length = xs0.length + 1 + (ys1.length + 1) := by simp; omega
          have e3 : strsV (xs0 ++ [p ++ q] ++ (y :: ys1)) = (strsV xs0 ++ [Value.string (⟨p.toArray⟩ ++ ⟨q.toArray⟩)]) ++ strsV (y :: ys1) := by simp [strsV, strV, bytes_cat]
          rw [e1, e2, e3]
          exact qq
        · exact ((hB7.setCell (by show w.heap.size ≤ w.heap.size + 1 + 1; omega) _).setCell (by show w.heap.size ≤ w.heap.size + 1 + 1; omega) _)
    · go_wp2_with (at_builtin; refine wpList_append_lies _ rfl _ _ 22 rfl w.heap.size 9 i0 (.string ⟨#[]⟩) 1 16 Try.underlying22 hi hz0 hz1 hz2 rfl (by decide) (.slice (some ⟨g1, 0, none⟩) xs.length c1) xs.length (strsV xs) rfl O1.out ⟨g2, 0, none⟩ ys.length c2 (strsV ys) rfl (by simp [strsV]) Hnews.out Hone.out hny (by unfold maxLen; omega) (by omega) (by omega) _ rfl ?_; intro g cap w6 ho hg hat hlt; have hu := Upd.grown (F := fun k => k = g1) (Upd.refl _ W5) hg (fun k _ e => by simp [Value.ownBlock] at e; exact e.symm); have k2 := hu.heap K2.out (by omega); have z0 := cell_of k2 0 (v := .slice none 0 0) rfl; have z1 := cell_of k2 1 (v := .bool false) rfl; have f0 := free_of k2 0; have f1 := free_of k2 1; have HO := Lib.hid ho; have HAT := Lib.hid hat; have HUU := Lib.hid hu; clear ho hg hat hu)
      have hgn : g ≠ w.heap.size + 1 + 1 := by
        rcases HAT.out with h | h
        · simp [Value.ownBlock] at h; omega
        · omega
      have he : (Value.slice (some ⟨g, 0, none⟩) (xs.length + ys.length) cap).ownBlock ≠ some (w.heap.size + 1 + 1) := by simpa [Value.ownBlock] using hgn
      have hB6 : Below w.heap.size w w6 := hB5.trans (HUU.out.below (by omega) (fun k hk e => by omega))
      refine bodyPost_ret (v := .agg #[.slice (some ⟨g, 0, none⟩) (xs.length + ys.length) cap, .bool true]) (results_cell_row Try.results40 _ _ (w.heap.size + 1 + 1) 24 _ (0, 0) _ rfl (heap_two k2) Try.underlying24 rfl (by kernel_rfl)) rfl ⟨_, rfl, ⟨_, rfl, ?_⟩, (hB6.setCell (by show w.heap.size ≤ w.heap.size + 1 + 1; omega) _).setCell (by show w.heap.size ≤ w.heap.size + 1 + 1; omega) _⟩
      have q := ownsRow_set (i := 1) (ownsRow_set (i := 0) HO.out he (.slice (some ⟨g, 0, none⟩) (xs.length + ys.length) cap)) he (.bool true)
      simpa [bothD, strsV] using q
  · cases wb
    · go_wp2_with (at_builtin; refine wpList_append_lies _ rfl _ _ 22 rfl w.heap.size 9 i0 (.string ⟨#[]⟩) 1 16 Try.underlying22 hi hz0 hz1 hz2 rfl (by decide) (.slice (some ⟨g1, 0, none⟩) xs.length c1) xs.length (strsV xs) rfl O1.out ⟨g2, 0, none⟩ ys.length c2 (strsV ys) rfl (by simp [strsV]) Hnews.out Hone.out hny (by unfold maxLen; omega) (by omega) (by omega) _ rfl ?_; intro g cap w6 ho hg hat hlt; have hu := Upd.grown (F := fun k => k = g1) (Upd.refl _ W5) hg (fun k _ e => by simp [Value.ownBlock] at e; exact e.symm); have k2 := hu.heap K2.out (by omega); have z0 := cell_of k2 0 (v := .slice none 0 0) rfl; have z1 := cell_of k2 1 (v := .bool false) rfl; have f0 := free_of k2 0; have f1 := free_of k2 1; have HO := Lib.hid ho; have HAT := Lib.hid hat; have HUU := Lib.hid hu; clear ho hg hat hu)
      have hgn : g ≠ w.heap.size + 1 + 1 := by
        rcases HAT.out with h | h
        · simp [Value.ownBlock] at h; omega
        · omega
      have he : (Value.slice (some ⟨g, 0, none⟩) (xs.length + ys.length) cap).ownBlock ≠ some (w.heap.size + 1 + 1) := by simpa [Value.ownBlock] using hgn
      have hB6 : Below w.heap.size w w6 := hB5.trans (HUU.out.below (by omega) (fun k hk e => by omega))
      refine bodyPost_ret (v := .agg #[.slice (some ⟨g, 0, none⟩) (xs.length + ys.length) cap, .bool true]) (results_cell_row Try.results40 _ _ (w.heap.size + 1 + 1) 24 _ (0, 0) _ rfl (heap_two k2) Try.underlying24 rfl (by kernel_rfl)) rfl ⟨_, rfl, ⟨_, rfl, ?_⟩, (hB6.setCell (by show w.heap.size ≤ w.heap.size + 1 + 1; omega) _).setCell (by show w.heap.size ≤ w.heap.size + 1 + 1; omega) _⟩
      have q := ownsRow_set (i := 1) (ownsRow_set (i := 0) HO.out he (.slice (some ⟨g, 0, none⟩) (xs.length + ys.length) cap)) he (.bool true)
      simpa [bothD, strsV] using q
    · go_wp2_with (at_builtin; refine wpList_append_lies _ rfl _ _ 22 rfl w.heap.size 9 i0 (.string ⟨#[]⟩) 1 16 Try.underlying22 hi hz0 hz1 hz2 rfl (by decide) (.slice (some ⟨g1, 0, none⟩) xs.length c1) xs.length (strsV xs) rfl O1.out ⟨g2, 0, none⟩ ys.length c2 (strsV ys) rfl (by simp [strsV]) Hnews.out Hone.out hny (by unfold maxLen; omega) (by omega) (by omega) _ rfl ?_; intro g cap w6 ho hg hat hlt; have hu := Upd.grown (F := fun k => k = g1) (Upd.refl _ W5) hg (fun k _ e => by simp [Value.ownBlock] at e; exact e.symm); have k2 := hu.heap K2.out (by omega); have z0 := cell_of k2 0 (v := .slice none 0 0) rfl; have z1 := cell_of k2 1 (v := .bool false) rfl; have f0 := free_of k2 0; have f1 := free_of k2 1; have HO := Lib.hid ho; have HAT := Lib.hid hat; have HUU := Lib.hid hu; clear ho hg hat hu)
      have hgn : g ≠ w.heap.size + 1 + 1 := by
        rcases HAT.out with h | h
        · simp [Value.ownBlock] at h; omega
        · omega
      have he : (Value.slice (some ⟨g, 0, none⟩) (xs.length + ys.length) cap).ownBlock ≠ some (w.heap.size + 1 + 1) := by simpa [Value.ownBlock] using hgn
      have hB6 : Below w.heap.size w w6 := hB5.trans (HUU.out.below (by omega) (fun k hk e => by omega))
      refine bodyPost_ret (v := .agg #[.slice (some ⟨g, 0, none⟩) (xs.length + ys.length) cap, .bool true]) (results_cell_row Try.results40 _ _ (w.heap.size + 1 + 1) 24 _ (0, 0) _ rfl (heap_two k2) Try.underlying24 rfl (by kernel_rfl)) rfl ⟨_, rfl, ⟨_, rfl, ?_⟩, (hB6.setCell (by show w.heap.size ≤ w.heap.size + 1 + 1; omega) _).setCell (by show w.heap.size ≤ w.heap.size + 1 + 1; omega) _⟩
      have q := ownsRow_set (i := 1) (ownsRow_set (i := 0) HO.out he (.slice (some ⟨g, 0, none⟩) (xs.length + ys.length) cap)) he (.bool true)
      simpa [bothD, strsV] using q
end Go.Proofs.Ytlhcojclfgbobaa
