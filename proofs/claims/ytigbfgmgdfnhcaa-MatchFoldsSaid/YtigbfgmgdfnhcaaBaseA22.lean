/- Lemmas that the law's proof stands on, part 22: WrC, WrD. No condition. -/
import Derived.Test.YtigbfgmgdfnhcaaBaseA0
import Derived.Test.YtigbfgmgdfnhcaaBaseA21
set_option linter.all false
set_option linter.unusedVariables false
set_option linter.unusedSimpArgs false
namespace Go.Proofs.Ytigbfgmgdfnhcaa
open Go.RowKit
section
variable {W : World} {B wb : Nat} {p : PatD} {nv : Value} {kvs : List Value} {cv0 : Value} {st : WrD} {cv : Value} {w : World}
theorem Wr.again (h : Wr W B wb p nv kvs cv0 st cv w) : Wr w B wb p nv kvs cv st cv w := ⟨h.blk, h.own, h.pat, Upd.refl _ _, fun _ hg => .inl hg, h.bse, h.wbb, h.old⟩
theorem Wr.trans (h : Wr W B wb p nv kvs cv0 st cv w) {st2 : WrD} {cv2 : Value} {w2 : World} (k : Wr w B wb p nv kvs cv st2 cv2 w2) : Wr W B wb p nv kvs cv0 st2 cv2 w2 := by
  have hsz := h.upd.size
  refine ⟨k.blk, k.own, k.pat, h.upd.then k.upd (fun i hi e => ?_), fun g hg => ?_, h.base, h.wbb, h.old⟩
  · rcases e with e | e
    · exact .inl e
    · rcases h.cvn i e with e2 | e2
      · exact .inr e2
      · omega
  · rcases k.cvn g hg with e | e
    · exact h.cvn g e
    · exact .inr (by omega)
theorem tok_wr (h : Wr W B wb p nv kvs cv0 st cv w) {g : Nat} {cs : Array Value} {T : TypeId} {fr : Nat × Nat} (hk : w.heap[g]? = some (.cells cs T fr)) (h1 : T ≠ 101 := by decide) (h2 : T ≠ 63 := by decide) : ¬ (g = wb ∨ cv.ownBlock = some g) := by
  rintro (e | e)
  · rw [e, h.blk] at hk
    simp only [Option.some.injEq, Obj.cells.injEq] at hk
    exact h1 hk.2.1.symm
  · rcases h.own.2 with ⟨hc, _⟩ | ⟨g', cap, cur, hc, _, hb, _⟩
    · rw [hc] at e; simp [Value.ownBlock] at e
    · rw [hc] at e
      simp only [Value.ownBlock, Option.some.injEq] at e
      subst e
      rw [hb] at hk
      simp only [Option.some.injEq, Obj.cells.injEq] at hk
      exact h2 hk.2.1.symm
end
/-- What node, asked for a kid, does. -/
def RecW (p : PatD) (rec : Nat → WrD → Option WrD) : Prop := ∀ (W : World) (B wb : Nat) (nv : Value) (kvs : List Value) (cv0 : Value) (st : WrD) (cv : Value) (w : World) (k : Nat) (st2 : WrD), Wr W B wb p nv kvs cv0 st cv w → WOk st → k < p.nodes.length → rec k st = some st2 →
  Calls Try.prog 45 #[.pointer (some ⟨wb, 0, none⟩), .int .i64 (k : Nat)] w (WrPost W B wb p nv kvs cv0 (.tuple #[]) st2)
set_option maxRecDepth 100000 in
set_option maxHeartbeats 4000000 in
theorem round_any {W : World} {B wb : Nat} {p : PatD} {nv : Value} {kvs : List Value} {cv0 : Value} {st : WrD} {cv : Value} {w : World} (h : Wr W B wb p nv kvs cv0 st cv w) (rec : Nat → WrD → Option WrD) (hrec : RecW p rec) (hrs : RecS rec) (hok : WOk st) (hlg : st.long = false) (kid : Nat) (hk : kid < p.nodes.length) (k : Nat) (st2 : WrD) (hq : st.round rec kid = some (k, st2)) :
    Calls Try.prog 84 #[.pointer (some ⟨wb, 0, none⟩), .int .i64 (kid : Nat)] w (WrPost W B wb p nv kvs cv0 (.int .i64 (k : Nat)) st2) := by
  unfold WrD.round at hq
  cases hs : rec kid ({ (st.lay { op := 4 }).2 with r := (st.lay { op := 4 }).2.r + 1 }.lay { op := 12, x := ((st.lay { op := 4 }).2.r : Int) }).2 with
  | none => rw [hs] at hq; cases hq
  | some s =>
    rw [hs] at hq
    have e := Option.some.inj hq
    rw [Prod.mk.injEq] at e
    have HE := Lib.hid e
    have g1 := (WStp.lay hok { op := 4 }).1
    have g2 := mid_ok hok hlg
    have g3 := (WStp.lay g2 { op := 12, x := ((st.lay { op := 4 }).2.r : Int) }).1
    have g4 := hrs kid _ s g3.ok hs
    have HS := Lib.hid hs
    have HREC := Lib.hid hrec
    have HOK := Lib.hid hok
    have HG1 := Lib.hid g1
    have HG2 := Lib.hid g2
    have HG3 := Lib.hid g3
    have HG4 := Lib.hid g4
    have hr1 : ((st.lay { op := 4 }).2.r : Int) ≤ 2002 := by have := g1.ok.r1; have := g1.ok.len; omega
    have hr0 : (0 : Int) ≤ ((st.lay { op := 4 }).2.r : Int) := by omega
    have HW := Lib.hid h
    have k0 := h.blk
    have hU0 := Upd.refl (fun k => w.heap.size ≤ k) w
    have hz := Nat.le_refl w.heap.size
    clear h hq e g1 g2 g3 g4 hs hrec hok hlg
    have c0 := cells_of k0; (try simp only [wrC, instC, nodeC, patC, zzT, zzO, zzS] at c0); have f0 := frees_of k0
    go_enter Try.func84, Try.ntmps84
    go_wp2_with (first
      | (go_at_call 46; refine (lay_any (HW.out.newer hU0).again { op := 4 } HOK.out.len).mono ?_; rintro e w ⟨rfl, cv1, hA⟩; have hN1 := (HW.out.newer hU0).trans hA; clear hA; clear HW hU0 hz k0 c0 f0; have HW := Lib.hid hN1; clear hN1; have k0 := HW.out.blk; have hU0 := Upd.refl (fun k => w.heap.size ≤ k) w; have hz := Nat.le_refl w.heap.size; have c0 := cells_of k0; (try simp only [wrC, instC, nodeC, patC, zzT, zzO, zzS] at c0); have f0 := frees_of k0)
      | ((with_reducible refine stopSt 3 _ _ rfl ?_); unfold Stop; refine wpList_store_blk rfl 3 _ _ rfl _ _ rfl _ (by go_simp; first | done | exact rfl) _ _ _ k0 (zzB rfl) (by kernel_rfl) rfl (by simp only [spl, wrC, instC, nodeC, patC, Value.cells, zzT, zzO, zzS, Array.toList]; exact rfl) ?_; intro w kn hUn hsn; have hN1 := (HW.out.newer hU0).put (st2 := { (st.lay { op := 4 }).2 with r := (st.lay { op := 4 }).2.r + 1 }) kn hUn rfl; clear kn hUn hsn; clear HW hU0 hz k0 c0 f0; have HW := Lib.hid hN1; clear hN1; have k0 := HW.out.blk; have hU0 := Upd.refl (fun k => w.heap.size ≤ k) w; have hz := Nat.le_refl w.heap.size; have c0 := cells_of k0; (try simp only [wrC, instC, nodeC, patC, zzT, zzO, zzS] at c0); have f0 := frees_of k0)
      | (go_at_call 46; refine (lay_any (HW.out.newer hU0).again { op := 12, x := ((st.lay { op := 4 }).2.r : Int) } HG2.out.len).mono ?_; rintro e w ⟨rfl, cv1, hA⟩; have hN1 := (HW.out.newer hU0).trans hA; clear hA; clear HW hU0 hz k0 c0 f0; have HW := Lib.hid hN1; clear hN1; have k0 := HW.out.blk; have hU0 := Upd.refl (fun k => w.heap.size ≤ k) w; have hz := Nat.le_refl w.heap.size; have c0 := cells_of k0; (try simp only [wrC, instC, nodeC, patC, zzT, zzO, zzS] at c0); have f0 := frees_of k0)
      | (go_at_call 45; refine (HREC.out _ B wb nv kvs _ _ _ _ kid s (HW.out.newer hU0).again HG3.out.ok hk HS.out).mono ?_; rintro e w ⟨rfl, cv1, hA⟩; have hN1 := (HW.out.newer hU0).trans hA; clear hA; clear HW hU0 hz k0 c0 f0; have HW := Lib.hid hN1; clear hN1; have k0 := HW.out.blk; have hU0 := Upd.refl (fun k => w.heap.size ≤ k) w; have hz := Nat.le_refl w.heap.size; have c0 := cells_of k0; (try simp only [wrC, instC, nodeC, patC, zzT, zzO, zzS] at c0); have f0 := frees_of k0)
      | (go_at_call 46; refine (lay_any (HW.out.newer hU0).again { op := 13, x := ((st.lay { op := 4 }).2.r : Int) } HG4.out.ok.len).mono ?_; rintro e w ⟨rfl, cv1, hA⟩; have hN1 := (HW.out.newer hU0).trans hA; clear hA; clear HW hU0 hz k0 c0 f0; have HW := Lib.hid hN1; clear hN1; have k0 := HW.out.blk; have hU0 := Upd.refl (fun k => w.heap.size ≤ k) w; have hz := Nat.le_refl w.heap.size; have c0 := cells_of k0; (try simp only [wrC, instC, nodeC, patC, zzT, zzO, zzS] at c0); have f0 := frees_of k0))
    go_ret
    exact ⟨by rw [← HE.out.1]; rfl, by rw [← HE.out.2]; exact ⟨_, HW.out⟩⟩
end Go.Proofs.Ytigbfgmgdfnhcaa
namespace Go.Proofs.Ytigbfgmgdfnhcaa
open Go.RowKit
section
variable {W : World} {B wb : Nat} {p : PatD} {nv : Value} {kvs : List Value} {cv0 : Value} {st : WrD} {cv : Value} {w : World}
theorem Wr.other (h : Wr W B wb p nv kvs cv0 st cv w) {F : Nat → Prop} {w' : World} (hu : Upd F w w') (hF : ∀ k, F k → W.heap.size ≤ k ∧ k ≠ wb ∧ cv.ownBlock ≠ some k) : Wr W B wb p nv kvs cv0 st cv w' :=
  ⟨hu.heap h.blk (fun e => (hF _ e).2.1 rfl), ownsRow_upd h.own hu (fun g hg e => (hF _ e).2.2 hg), h.pat.high h.old hu (fun k hk => Nat.le_trans h.base (hF k hk).1), h.upd.then hu (fun i hi e => absurd hi (by have := (hF i e).1; omega)), h.cvn, h.base, h.wbb, h.old⟩
theorem Wr.intne (h : Wr W B wb p nv kvs cv0 st cv w) {D n : Nat} {v : Value} {xs : List Value} (ho : w.ownsRow D 3 1 v n xs) {g : Nat} (hg : v.ownBlock = some g) : g ≠ wb ∧ cv.ownBlock ≠ some g := by
  obtain ⟨cs, hc⟩ := ownBlock_int ho hg
  have := tok_wr h hc (by decide) (by decide)
  exact ⟨fun e => this (.inl e), fun e => this (.inr e)⟩
end
/-- The first of a node's kids, in memory. -/
theorem kid_cell {w : World} {nv : Value} {kvs : List Value} {ns : List NodeD} (h : PatAt w nv kvs ns) (ki : Nat) (hk : ki < ns.length) {a : Option Addr} {c n : Nat} (hv : kvs.getD ki undef = .slice a n c) (i : Nat) (hi : i < (ns.getD ki .zero).kids.length) : ∃ b o, a = some ⟨b, o, none⟩ ∧ w.cell? ⟨b, o + i, none⟩ = some (.int .i64 (((ns.getD ki .zero).kids.getD i 0 : Nat) : Int)) := by
  have hk2 : ki < kvs.length := by rw [← h.len]; exact hk
  obtain ⟨h3, h4⟩ := h.kids ki hk hk2
  have e0 : ns.getD ki .zero = ns[ki] := by simp [List.getD_eq_getElem?_getD, List.getElem?_eq_getElem hk]
  have e1 : kvs.getD ki undef = kvs[ki] := by simp [List.getD_eq_getElem?_getD, List.getElem?_eq_getElem hk2]
  rw [e0] at hi ⊢
  rw [e1] at hv
  obtain ⟨a2, c2, e, hh⟩ := h3
  rw [hv] at e
  injection e with e2 e3 e4
  obtain ⟨b, o, hb, hc⟩ := hh i hi
  refine ⟨b, o, by rw [e2, hb], ?_⟩
  rw [hc, List.getD_eq_getElem?_getD, List.getElem?_eq_getElem hi]
  rfl
theorem headD_getD (l : List Nat) : l.headD 0 = l.getD 0 0 := by cases l <;> rfl
theorem manyA_long {rec : Nat → WrD → Option WrD} {kid n : Nat} {st : WrD} (h : st.long = true) : manyA rec kid n st = some st := by
  cases n with
  | zero => rfl
  | succ n => unfold manyA; rw [if_pos h]
theorem manyA_on {rec : Nat → WrD → Option WrD} {kid n : Nat} {st s2 : WrD} (h : st.long = false) (hq : manyA rec kid (n + 1) st = some s2) : ∃ s, rec kid st = some s ∧ manyA rec kid n s = some s2 := by
  unfold manyA at hq
  rw [if_neg (by rw [h]; decide)] at hq
  split at hq
  · cases hq
  · rename_i s hs
    exact ⟨s, hs, hq⟩
theorem manyB_long {rec : Nat → WrD → Option WrD} {kid n : Nat} {st : WrD} {l : List Nat} (h : st.long = true) : manyB rec kid n st l = some (st, l) := by
  cases n with
  | zero => rfl
  | succ n => unfold manyB; rw [if_pos h]
theorem manyB_on {rec : Nat → WrD → Option WrD} {kid n : Nat} {st : WrD} {l : List Nat} {q : WrD × List Nat} (h : st.long = false) (hq : manyB rec kid (n + 1) st l = some q) : ∃ k s, st.round rec kid = some (k, s) ∧ manyB rec kid n s (l ++ [k]) = some q := by
  unfold manyB at hq
  rw [if_neg (by rw [h]; decide)] at hq
  split at hq
  · cases hq
  · rename_i k s hs
    exact ⟨k, s, hs, hq⟩
theorem slice_n {w : World} {D n size : Nat} {e : TypeId} {v : Value} {xs : List Value} (h : w.ownsRow D e size v n xs) : ∃ a c, v = .slice a n c := by
  rcases h.2 with ⟨rfl, h0⟩ | ⟨g, cap, cur, rfl, _⟩
  · exact ⟨none, 0, by rw [h0]⟩
  · exact ⟨_, cap, rfl⟩
theorem own_cell {w : World} {D : Nat} {a : Option Addr} {c : Nat} {l : List Nat} {i j : Nat} (h : w.ownsRow D 3 1 (.slice a l.length c) l.length (l.map fun k => Value.int .i64 ((k : Nat) : Int))) (hi : i < l.length) (hj : l[i] = j) : ∃ b o, a = some ⟨b, o, none⟩ ∧ w.cell? ⟨b, o + i, none⟩ = some (.int .i64 (j : Nat)) := by
  obtain ⟨a2, c2, e, hh⟩ := nats_of_owns h
  injection e with e1 e2 e3
  obtain ⟨b, o, hb, hc⟩ := hh i hi
  exact ⟨b, o, by rw [e1, hb], by rw [hc, hj]⟩
theorem int_node {w : World} {D n : Nat} {v : Value} {xs : List Value} (ho : w.ownsRow D 3 1 v n xs) {g : Nat} (hg : v.ownBlock = some g) {cs : Array Value} {fr : Nat × Nat} (hk : w.heap[g]? = some (.cells cs 113 fr)) : False := by
  obtain ⟨c2, hc⟩ := ownBlock_int ho hg
  rw [hc] at hk
  simp at hk
set_option maxRecDepth 100000 in
set_option maxHeartbeats 8000000 in
theorem manyW_any {W : World} {B wb : Nat} {p : PatD} {nv : Value} {kvs : List Value} {cv0 : Value} {st : WrD} {cv : Value} {w : World} (h : Wr W B wb p nv kvs cv0 st cv w) (rec : Nat → WrD → Option WrD) (hrec : RecW p rec) (hrs : RecS rec) (hok : WOk st)
    (ki : Nat) (hki : ki < p.nodes.length) (n : NodeD) (hn : p.nodes.getD ki .zero = n) (hno : NodeOK n) (hk0 : 0 < n.kids.length) (hkid : n.kids.headD 0 < p.nodes.length) (na : Option Addr) (nc : Nat) (hkv : kvs.getD ki undef = .slice na n.kids.length nc) (st2 : WrD) (hq : st.many rec n = some st2) :
    Calls Try.prog 66 #[.pointer (some ⟨wb, 0, none⟩), .agg (nodeC n (.slice na n.kids.length nc)).toArray] w (WrPost W B wb p nv kvs cv0 (.tuple #[]) st2) := by
  obtain ⟨nop, ncc, nset, nmin, nmax, nlz, nnn, nks⟩ := n
  have hx60 : nmax ≤ 60 := hno.mx
  have hm60' : nmin ≤ 60 := hno.mn
  have hm0 : 0 ≤ nmin := hno.mn0
  obtain ⟨mn, rfl⟩ : ∃ mn : Nat, nmin = (mn : Int) := ⟨nmin.toNat, by omega⟩
  have hm60 : mn ≤ 60 := by omega
  simp only [] at hk0 hkid hkv
  have HW := Lib.hid h
  have HREC := Lib.hid hrec
  have HRS := Lib.hid hrs
  have HKV := Lib.hid hkv
  have HN := Lib.hid hn
  have k0 := h.blk
  have hU0 := Upd.refl (fun k => w.heap.size ≤ k) w
  have hz := Nat.le_refl w.heap.size
  unfold WrD.many at hq
  simp only [Int.toNat_natCast] at hq
  obtain ⟨sA, hA, hq2⟩ : ∃ sA, manyA rec (nks.headD 0) mn st = some sA ∧ (if sA.long = true then some sA
    else if nmax < 0 then match sA.round rec (nks.headD 0) with
      | none => none
      | some (k, s2) => some ((s2.lay { op := 5, x := (k : Int) }).2.to k (s2.lay { op := 5, x := (k : Int) }).2.code.length nlz)
    else match manyB rec (nks.headD 0) (nmax - (mn : Int)).toNat sA [] with
      | none => none
      | some (s2, l) => some (waysTo nlz s2 l)) = some st2 := by
    split at hq
    · cases hq
    · rename_i sA hA
      exact ⟨sA, hA, hq⟩
  have HA := Lib.hid hA
  have HQ := Lib.hid hq2
  have HSA := Lib.hid (WStp.manyA hrs mn st sA hok hA)
  have HOK := Lib.hid hok
  obtain ⟨kid, hkd⟩ : ∃ kid, nks.headD 0 = kid := ⟨_, rfl⟩
  have HKD := Lib.hid hkd
  rw [hkd] at hkid HA HQ
  have hkc : ∀ w, PatAt w nv kvs p.nodes → ∃ b o, na = some ⟨b, o, none⟩ ∧ w.cell? ⟨b, o, none⟩ = some (.int .i64 (kid : Nat)) := by
    intro w hp
    have := kid_cell hp ki hki hkv 0 (by rw [hn]; exact hk0)
    rw [hn] at this
    rw [← hkd, headD_getD]
    simpa using this
  obtain ⟨kb, ko, rfl, _⟩ := hkc w h.pat
  have hkc2 : ∀ w, PatAt w nv kvs p.nodes → w.cell? ⟨kb, ko, none⟩ = some (.int .i64 (kid : Nat)) := by
    intro w hp
    obtain ⟨b, o, e, hc⟩ := hkc w hp
    injection e with e
    injection e with e1 e2
    rw [e1, e2]
    exact hc
  have HKC := Lib.hid hkc2
  have hkl1 : (0 : Int) < (nks.length : Int) := by omega
  clear h hq hA hq2 hrec hrs hok hkv hn hno hm0 hm60' hkc hkc2 hkd
  have c0 := cells_of k0; (try simp only [wrC, instC, nodeC, patC, zzT, zzO, zzS] at c0); have f0 := frees_of k0
  go_enter Try.func66, Try.ntmps66
  go_upto_block 0 with (first
    | ((with_reducible refine stopBx 113 _ rfl ?_); unfold Stop; refine wpList_box_blk rfl 113 _ rfl _ (by go_simp; first | done | exact rfl) (nodeC ⟨nop, ncc, nset, (mn : Int), nmax, nlz, nnn, nks⟩ (.slice (some ⟨kb, ko, none⟩) nks.length nc)).toArray rfl ?_; intro bN wn hbn kn hUn hsn; clear c0 f0; have l0N := heap_lt k0; rw [hbn] at l0N; replace k0 := hUn.heap k0 (fun h => h); have gN : w.heap.size ≤ bN := Nat.le_trans hU0.size (Nat.le_of_eq hbn); have kN := kn; replace hU0 := hU0.then hUn (fun _ _ h => h.elim); replace hz : w.heap.size ≤ wn.heap.size := (by omega); clear kn hUn hsn hbn; have cN := cells_of kN; (try simp only [wrC, instC, nodeC, patC, zzT, zzO, zzS] at cN); have fN := frees_of kN; have c0 := cells_of k0; (try simp only [wrC, instC, nodeC, patC, zzT, zzO, zzS] at c0); have f0 := frees_of k0))
  have HW0 := Lib.hid (HW.out.newer hU0)
  clear HW hU0 hz k0 c0 f0 cN fN
  go_cut [9] (fun _ w' => ∃ cv1, Wr W B wb p nv kvs cv0 sA cv1 w' ∧ w'.heap[bN]? = some (.cells (nodeC ⟨nop, ncc, nset, (mn : Int), nmax, nlz, nnn, nks⟩ (.slice (some ⟨kb, ko, none⟩) nks.length nc)).toArray 113 (0, 0)))
  case first =>
    go_wp2_with fail
    go_loopg [4] mn (fun gk iv wr => ∃ (i : Nat) (st1 : WrD) (cv1 : Value), iv = .int .i64 (i : Nat) ∧ i + gk = mn ∧ Hid (manyA rec kid gk st1 = some sA) ∧ Wr W B wb p nv kvs cv0 st1 cv1 wr ∧ WOk st1 ∧ wr.heap[bN]? = some (.cells (nodeC ⟨nop, ncc, nset, (mn : Int), nmax, nlz, nnn, nks⟩ (.slice (some ⟨kb, ko, none⟩) nks.length nc)).toArray 113 (0, 0)))
    case atStart => exact ⟨0, st, _, rfl, by omega, HA, HW0.out, HOK.out, kN⟩
    case round =>
      clear HW0 HOK kN HA HQ
      obtain ⟨i, st1, cv1, rfl, hi, hE, hW1, hok1, kN⟩ := hrel
      obtain ⟨w, rfl⟩ : ∃ w, w = wr := ⟨_, rfl⟩
      have HW := Lib.hid hW1
      have HOK := Lib.hid hok1
      have k0 := hW1.blk
      have hU0 := Upd.refl (fun k => w.heap.size ≤ k) w
      have hz := Nat.le_refl w.heap.size
      have ck := HKC.out w hW1.pat
      clear hW1 hok1
      have c0 := cells_of k0; (try simp only [wrC, instC, nodeC, patC, zzT, zzO, zzS] at c0); have f0 := frees_of k0; have cN := cells_of kN; (try simp only [wrC, instC, nodeC, patC, zzT, zzO, zzS] at cN); have fN := frees_of kN

      cases gk with
      | zero =>
        have HE := Lib.hid (Option.some.inj hE.out)
        have gi : ¬ (i : Int) < (mn : Int) := by omega
        clear hE
        go_wp2
        go_meet
        exact ⟨cv1, by rw [← HE.out]; exact HW.out, kN⟩
      | succ g =>
        have gi : (i : Int) < (mn : Int) := by omega
        cases hlg : st1.long
        · obtain ⟨s, hs, hs2⟩ := manyA_on hlg hE.out
          have HS := Lib.hid hs
          have HS2 := Lib.hid hs2
          have HST := Lib.hid (HRS.out kid st1 s HOK.out hs)
          have HLG := Lib.hid hlg
          simp only [hlg] at c0
          clear hs hs2 hE hlg
          go_wp2_with (first
            | (go_at_call 45; refine (HREC.out _ B wb nv kvs _ _ _ _ kid s (HW.out.newer hU0).again HOK.out hkid HS.out).mono ?_; rintro e w ⟨rfl, cv1, hA⟩; clear cN fN; replace kN := (hA.upd).heap kN (tok_wr (HW.out.newer hU0) kN); have hN1 := (HW.out.newer hU0).trans hA; clear hA; clear HW hU0 hz k0 c0 f0; have HW := Lib.hid hN1; clear hN1; have k0 := HW.out.blk; have hU0 := Upd.refl (fun k => w.heap.size ≤ k) w; have hz := Nat.le_refl w.heap.size; have c0 := cells_of k0; (try simp only [wrC, instC, nodeC, patC, zzT, zzO, zzS] at c0); have f0 := frees_of k0; have cN := cells_of kN; (try simp only [wrC, instC, nodeC, patC, zzT, zzO, zzS] at cN); have fN := frees_of kN))
          go_roundg g
          case measure => omega
          case rel => exact ⟨i + 1, s, _, by go_num, by omega, HS2, HW.out, HST.out.ok, kN⟩
        · have e := hE.out
          rw [manyA_long hlg] at e
          have HE := Lib.hid (Option.some.inj e)
          simp only [hlg] at c0
          clear hE e hlg
          go_wp2
          go_meet
          exact ⟨cv1, by rw [← HE.out]; exact HW.out, kN⟩
  case rest =>
    clear HW0 kN HA
    obtain ⟨cv1, hW1, kN⟩ := hcut
    obtain ⟨w, rfl⟩ : ∃ w, w = wc := ⟨_, rfl⟩
    have hok1 := HSA.out.ok
    clear HOK
    have HW := Lib.hid hW1
    have HOK := Lib.hid hok1
    have k0 := hW1.blk
    have hU0 := Upd.refl (fun k => w.heap.size ≤ k) w
    have hz := Nat.le_refl w.heap.size
    have ck := HKC.out w hW1.pat
    clear hW1 hok1
    have c0 := cells_of k0; (try simp only [wrC, instC, nodeC, patC, zzT, zzO, zzS] at c0); have f0 := frees_of k0; have cN := cells_of kN; (try simp only [wrC, instC, nodeC, patC, zzT, zzO, zzS] at cN); have fN := frees_of kN

    cases hlg : sA.long
    · have HLG := Lib.hid hlg
      have hq2 := HQ.out
      rw [if_neg (by rw [hlg]; decide)] at hq2
      simp only [hlg] at c0
      clear hlg HQ
      by_cases hmx : nmax < 0
      · rw [if_pos hmx] at hq2
        cases hrd : sA.round rec kid with
        | none => rw [hrd] at hq2; cases hq2
        | some q =>
          obtain ⟨k, s⟩ := q
          rw [hrd] at hq2
          have HE := Lib.hid (Option.some.inj hq2)
          have HS := Lib.hid hrd
          have HST := Lib.hid (WStp.round HRS.out HOK.out HLG.out hrd)
          have HLY := Lib.hid (WStp.lay HST.out.1.ok { op := 5, x := (k : Int) })
          clear hq2 hrd
          go_wp2_with (first
            | (go_at_call 84; refine (round_any (HW.out.newer hU0).again rec HREC.out HRS.out HOK.out HLG.out kid hkid k s HS.out).mono ?_; rintro e w ⟨rfl, cv1, hA⟩; clear cN fN; replace kN := (hA.upd).heap kN (tok_wr (HW.out.newer hU0) kN); have hN1 := (HW.out.newer hU0).trans hA; clear hA; clear HW hU0 hz k0 c0 f0; have HW := Lib.hid hN1; clear hN1; have k0 := HW.out.blk; have hU0 := Upd.refl (fun k => w.heap.size ≤ k) w; have hz := Nat.le_refl w.heap.size; have c0 := cells_of k0; (try simp only [wrC, instC, nodeC, patC, zzT, zzO, zzS] at c0); have f0 := frees_of k0; have cN := cells_of kN; (try simp only [wrC, instC, nodeC, patC, zzT, zzO, zzS] at cN); have fN := frees_of kN)
            | (go_at_call 46; refine (lay_any (HW.out.newer hU0).again { op := 5, x := (k : Int) } HST.out.1.ok.len).mono ?_; rintro e w ⟨rfl, cv1, hA⟩; clear cN fN; replace kN := (hA.upd).heap kN (tok_wr (HW.out.newer hU0) kN); have hN1 := (HW.out.newer hU0).trans hA; clear hA; clear HW hU0 hz k0 c0 f0; have HW := Lib.hid hN1; clear hN1; have k0 := HW.out.blk; have hU0 := Upd.refl (fun k => w.heap.size ≤ k) w; have hz := Nat.le_refl w.heap.size; have c0 := cells_of k0; (try simp only [wrC, instC, nodeC, patC, zzT, zzO, zzS] at c0); have f0 := frees_of k0; have cN := cells_of kN; (try simp only [wrC, instC, nodeC, patC, zzT, zzO, zzS] at cN); have fN := frees_of kN))
          have HTK := Lib.hid (Nat.lt_of_lt_of_le HST.out.2 HLY.out.1.grow)
          have HTL := Lib.hid HLY.out.1.ok.len
          obtain ⟨ca, cc, hcv⟩ := HW.out.cform
          subst hcv
          have HWd := Lib.hid (HW.out.newer hU0.drew)
          obtain ⟨wd, hwd⟩ : ∃ wd, w.drew = wd := ⟨_, rfl⟩
          rw [hwd] at HWd
          have kNd : wd.heap[bN]? = some (.cells (nodeC ⟨nop, ncc, nset, (mn : Int), nmax, nlz, nnn, nks⟩ (.slice (some ⟨kb, ko, none⟩) nks.length nc)).toArray 113 (0, 0)) := by rw [← hwd]; exact kN
          have d4 := cell_of HWd.out.blk 4 (v := .slice ca ((s.lay { op := 5, x := (k : Int) }).2).code.length cc) rfl
          have dN := cell_of kNd 8 (v := .bool nlz) rfl
          refine wp_region_seq (fun v => v = wd) (fun i => i != 9) [(0, true), (1, true), (2, true), (3, true), (4, true), (5, true), (6, true), (7, true), (8, true), (9, false)] (by exact rfl) (by kernel_rfl) (by intro c a d v w h; cases d <;> exact h) ?_
          rw [hwd]; have hS : wd = wd := rfl
          iterate 9 (((apply seq_val2 rfl (by rfl); (focus (intro w' hS'; subst hS'; go_simp; (first | done | exact rfl | (rw [if_pos (by omega)]; done)))); (focus exact hS))); (try simp only [Act.put, zzT, zzO, zzS]))
          apply seq_call2 (fun v w' => v = Value.tuple #[] ∧ (∃ cv2, Wr wd B wb p nv kvs (.slice ca ((s.lay { op := 5, x := (k : Int) }).2).code.length cc) (((s.lay { op := 5, x := (k : Int) }).2).to k ((s.lay { op := 5, x := (k : Int) }).2).code.length nlz) cv2 w')) rfl (by rfl)
          focus (go_simp; (first | done | exact rfl | exact ⟨rfl, rfl⟩))
          focus (refine (to_any HWd.out.again k _ nlz HTK.out HTL.out).mono ?_; rintro e w' ⟨rfl, hA⟩; exact ⟨_, rfl, rfl, hA⟩)
          rintro v w5 ⟨rfl, cv2, hA⟩; have hN1 := HWd.out.trans hA; have kN5 := hA.upd.heap kNd (tok_wr HWd.out kNd); refine ⟨(fun e => by cases e), ?_⟩
          (try simp only [Act.put, zzT, zzO, zzS])
          refine seq_nil ?_
          go_wp2
          first | go_end0 | go_ret
          exact ⟨rfl, _, by rw [← HE.out]; exact hN1⟩
      · rw [if_neg hmx] at hq2
        cases hmb : manyB rec kid (nmax - (mn : Int)).toNat sA [] with
        | none => rw [hmb] at hq2; cases hq2
        | some q =>
          obtain ⟨sB, lB⟩ := q
          rw [hmb] at hq2
          have HE := Lib.hid (Option.some.inj hq2)
          have HMB := Lib.hid hmb
          obtain ⟨hb1, hb2, hb3⟩ := WStp.manyB HRS.out _ _ _ _ _ HOK.out (fun k hk => by simp at hk) hmb
          have HB1 := Lib.hid hb1
          have HB2 := Lib.hid hb2
          have hlb : lB.length ≤ 60 := by simp at hb3; omega
          obtain ⟨i0, hi, hz0, hz1', hz2⟩ := info_parts info_int
          clear hq2 hmb hb1 hb2 hb3
          go_upto_block 2 with fail
          go_cut [6] (fun lv w' => ∃ cv1, Wr W B wb p nv kvs cv0 sB cv1 w' ∧ w'.heap[bN]? = some (.cells (nodeC ⟨nop, ncc, nset, (mn : Int), nmax, nlz, nnn, nks⟩ (.slice (some ⟨kb, ko, none⟩) nks.length nc)).toArray 113 (0, 0)) ∧ w'.ownsRow W.heap.size 3 1 lv lB.length (lB.map fun k => Value.int .i64 ((k : Nat) : Int)))
          case first =>
            go_wp2_with fail
            clear c0 f0 cN fN
            go_loopg [6, 7] ((nmax - (mn : Int)).toNat) (fun gk lv iv wr => ∃ (i : Nat) (st1 : WrD) (cv1 : Value) (l1 : List Nat), iv = .int .i64 ((mn : Int) + i) ∧ i + gk = (nmax - (mn : Int)).toNat ∧ Hid (manyB rec kid gk st1 l1 = some (sB, lB)) ∧ Wr W B wb p nv kvs cv0 st1 cv1 wr ∧ WOk st1 ∧ wr.heap[bN]? = some (.cells (nodeC ⟨nop, ncc, nset, (mn : Int), nmax, nlz, nnn, nks⟩ (.slice (some ⟨kb, ko, none⟩) nks.length nc)).toArray 113 (0, 0)) ∧ wr.ownsRow W.heap.size 3 1 lv l1.length (l1.map fun k => Value.int .i64 ((k : Nat) : Int)) ∧ l1.length = i)
            case atStart => exact ⟨0, sA, _, [], by simp, by omega, HMB, HW.out, HOK.out, kN, ⟨rfl, .inl ⟨rfl, rfl⟩⟩, rfl⟩
            case round =>
              clear HW HOK kN HMB HB1 HB2 HE HLG k0 hU0 hz ck
              obtain ⟨i, st1, cv1, l1, rfl, hi2, hE, hW1, hok1, kN, hown, hl1⟩ := hrel
              obtain ⟨lv, rfl⟩ : ∃ lv, lv = u6 := ⟨_, rfl⟩
              obtain ⟨w, rfl⟩ : ∃ w, w = wr := ⟨_, rfl⟩
              have HW := Lib.hid hW1
              have HOK := Lib.hid hok1
              have k0 := hW1.blk
              have hU0 := Upd.refl (fun k => w.heap.size ≤ k) w
              have hz := Nat.le_refl w.heap.size
              have ck := HKC.out w hW1.pat
              have HOW := Lib.hid hown
              clear hW1 hok1 hown
              have c0 := cells_of k0; (try simp only [wrC, instC, nodeC, patC, zzT, zzO, zzS] at c0); have f0 := frees_of k0; have cN := cells_of kN; (try simp only [wrC, instC, nodeC, patC, zzT, zzO, zzS] at cN); have fN := frees_of kN
              cases gk with
              | zero =>
                have e := Option.some.inj hE.out
                rw [Prod.mk.injEq] at e
                obtain ⟨rfl, rfl⟩ := e
                have gi : ¬ (mn : Int) + (i : Int) < nmax := by omega
                clear hE
                go_wp2
                go_meet
                exact ⟨cv1, HW.out, kN, HOW.out⟩
              | succ g =>
                have gi : (mn : Int) + (i : Int) < nmax := by omega
                cases hlg : st1.long
                · obtain ⟨k, s, hs, hs2⟩ := manyB_on hlg hE.out
                  have HS := Lib.hid hs
                  have HS2 := Lib.hid hs2
                  have HST := Lib.hid (WStp.round HRS.out HOK.out hlg hs)
                  have HLG := Lib.hid hlg
                  simp only [hlg] at c0
                  clear hs hs2 hE hlg
                  go_wp2_with (first
                    | (go_at_call 84; refine (round_any (HW.out.newer hU0).again rec HREC.out HRS.out HOK.out HLG.out kid hkid k s HS.out).mono ?_; rintro e w ⟨rfl, cv1, hA⟩; clear cN fN; replace kN := (hA.upd).heap kN (tok_wr (HW.out.newer hU0) kN); have HOW2 := Lib.hid (ownsRow_upd HOW.out hA.upd (fun g hg e => e.elim (HW.out.intne HOW.out hg).1 (HW.out.intne HOW.out hg).2)); have hN1 := (HW.out.newer hU0).trans hA; clear hA; clear HW hU0 hz k0 c0 f0; have HW := Lib.hid hN1; clear hN1; have k0 := HW.out.blk; have hU0 := Upd.refl (fun k => w.heap.size ≤ k) w; have hz := Nat.le_refl w.heap.size; have c0 := cells_of k0; (try simp only [wrC, instC, nodeC, patC, zzT, zzO, zzS] at c0); have f0 := frees_of k0; have cN := cells_of kN; (try simp only [wrC, instC, nodeC, patC, zzT, zzO, zzS] at cN); have fN := frees_of kN)
                    | (at_builtin
                       have hUa := hU0.alloc (.cells #[.int .i64 (k : Nat)] 3)
                       have hB1 := HW.out.newer hUa
                       have hO1 := ownsRow_upd HOW2.out hUa (fun g hg => by have := (HOW2.out.lt g hg).2; omega)
                       have kN1 := hUa.heap kN (by have := heap_lt kN; omega)
                       have hc1 := cell_one_at (w := w) (n := w.heap.size) (Value.int .i64 (k : Nat)) 3 rfl
                       have hz1 : (w.alloc (.cells #[.int .i64 (k : Nat)] 3)).heap.size = w.heap.size + 1 := by simp
                       have hW1 := HW.out.upd.size
                       have HB1 := Lib.hid hB1
                       have HO1 := Lib.hid hO1
                       clear hB1 hO1 c0 f0 cN fN
                       refine wpList_append_own2 _ rfl _ _ 51 rfl _ 3 i0 (.int .i64 0) 1 8 Try.underlying51 hi hz0 hz1' hz2 rfl (by decide) lv _ _ rfl HO1.out ⟨w.heap.size, 0, none⟩ 1 1 [.int .i64 (k : Nat)] rfl rfl hc1 (by simp [Value.oneCell']) (by unfold maxLen; omega) (by omega) (by omega) ?_
                       intro v3 w3 ho3 hg3 hn3
                       have hU3 := (Upd.refl (fun j => lv.ownBlock = some j) _).grown hg3 (fun j _ e => e)
                       have hW3 := HB1.out.other hU3 (fun j e => ⟨(HO1.out.lt j e).1, HB1.out.intne HO1.out e⟩)
                       have kN3 := hU3.heap kN1 (fun e => int_node HO1.out e kN1)
                       clear hg3 hn3 hU3 hc1 hUa hz1))
                  go_roundg g
                  case measure => omega
                  case rel => exact ⟨i + 1, s, _, l1 ++ [k], by go_num, by omega, HS2, hW3, HST.out.1.ok, kN3, by simpa using ho3, by simp [hl1]⟩
                · have e := hE.out
                  rw [manyB_long hlg] at e
                  have e := Option.some.inj e
                  rw [Prod.mk.injEq] at e
                  obtain ⟨rfl, rfl⟩ := e
                  simp only [hlg] at c0
                  clear hE hlg
                  go_wp2
                  go_meet
                  exact ⟨cv1, HW.out, kN, HOW.out⟩
          case rest =>
            clear HW HOK kN HMB HLG k0 hU0 hz ck c0 f0 cN fN
            obtain ⟨cv1, hW1, kN, hown⟩ := hcut
            obtain ⟨lv, rfl⟩ : ∃ lv, lv = u6 := ⟨_, rfl⟩
            have HOW0 := Lib.hid hown
            have HW0 := Lib.hid hW1
            obtain ⟨la, lc, rfl⟩ := slice_n hown
            clear hown hW1
            go_wp2_with fail
            go_loopg [8] lB.length (fun gk iv wr => ∃ (i : Nat) (st1 : WrD) (cv1 : Value), iv = .int .i64 (i : Nat) ∧ i + gk = lB.length ∧ Hid (waysTo nlz st1 (lB.drop i) = st2) ∧ Wr W B wb p nv kvs cv0 st1 cv1 wr ∧ WOk st1 ∧ Ins lB st1 ∧ wr.heap[bN]? = some (.cells (nodeC ⟨nop, ncc, nset, (mn : Int), nmax, nlz, nnn, nks⟩ (.slice (some ⟨kb, ko, none⟩) nks.length nc)).toArray 113 (0, 0)) ∧ wr.ownsRow W.heap.size 3 1 (.slice la lB.length lc) lB.length (lB.map fun k => Value.int .i64 ((k : Nat) : Int)))
            case atStart => exact ⟨0, sB, _, rfl, by omega, HE, HW0.out, HB1.out.ok, HB2.out, kN, HOW0.out⟩
            case round =>
              clear HW0 HOW0 kN HB1 HB2 HE
              obtain ⟨i, st1, cv1, rfl, hi2, hE, hW1, hok1, hins, kN, hown⟩ := hrel
              obtain ⟨w, rfl⟩ : ∃ w, w = wr := ⟨_, rfl⟩
              have HW := Lib.hid hW1
              have HOK := Lib.hid hok1
              have HIN := Lib.hid hins
              have hU0 := Upd.refl (fun k => w.heap.size ≤ k) w
              have HOW := Lib.hid hown
              clear hW1 hok1 hown hins
              by_cases hlt : i < lB.length
              · have gi : (i : Int) < (lB.length : Int) := by omega
                have gi0 : (0 : Int) ≤ (i : Int) := by omega
                obtain ⟨j, hj⟩ : ∃ j, lB[i] = j := ⟨_, rfl⟩
                have hE2 := hE.out
                rw [List.drop_eq_getElem_cons hlt, hj] at hE2
                have HE2 : Hid (waysTo nlz (st1.to j st1.code.length nlz) (lB.drop (i + 1)) = st2) := Lib.hid hE2
                have HTK := Lib.hid (HIN.out j (by rw [← hj]; exact List.getElem_mem hlt))
                have HTL := Lib.hid HOK.out.len
                have HTO := Lib.hid (WStp.to HOK.out j st1.code.length nlz)
                have HCELL := Lib.hid (fun (w : World) (h : w.ownsRow W.heap.size 3 1 (.slice la lB.length lc) lB.length (lB.map fun k => Value.int .i64 ((k : Nat) : Int))) => own_cell h hlt hj)
                clear hE hE2 hj
                obtain ⟨lb, lo, rfl, _⟩ := HCELL.out w HOW.out
                go_wp2
                obtain ⟨ca, cc, hcv⟩ := HW.out.cform
                subst hcv
                have HWd := Lib.hid (HW.out.newer hU0.drew)
                obtain ⟨wd, hwd⟩ : ∃ wd, w.drew = wd := ⟨_, rfl⟩
                rw [hwd] at HWd
                have kNd : wd.heap[bN]? = some (.cells (nodeC ⟨nop, ncc, nset, (mn : Int), nmax, nlz, nnn, nks⟩ (.slice (some ⟨kb, ko, none⟩) nks.length nc)).toArray 113 (0, 0)) := by rw [← hwd]; exact kN
                have d4 := cell_of HWd.out.blk 4 (v := .slice ca (st1).code.length cc) rfl
                have dN := cell_of kNd 8 (v := .bool nlz) rfl
                have HOWd := Lib.hid (ownsRow_upd HOW.out hU0.drew (fun g hg => by have := (HOW.out.lt g hg).2; omega))
                rw [hwd] at HOWd
                have dl : wd.cell? ⟨lb, lo + i, none⟩ = some (.int .i64 (j : Nat)) := by obtain ⟨b2, o2, e, hc⟩ := HCELL.out wd HOWd.out; injection e with e; injection e with e1 e2; rw [e1, e2]; exact hc
                refine wp_region_seq (fun v => v = wd) (fun i => i != 12) [(0, true), (1, true), (2, true), (3, true), (4, true), (5, true), (6, true), (7, true), (8, true), (9, true), (10, true), (11, true), (12, false)] (by exact rfl) (by kernel_rfl) (by intro c a d v w h; cases d <;> exact h) ?_
                rw [hwd]; have hS : wd = wd := rfl
                iterate 12 (((apply seq_val2 rfl (by rfl); (focus (intro w' hS'; subst hS'; go_simp; (first | done | exact rfl | (rw [if_pos (by omega)]; done)))); (focus exact hS))); (try simp only [Act.put, zzT, zzO, zzS]))
                apply seq_call2 (fun v w' => v = Value.tuple #[] ∧ (∃ cv2, Wr wd B wb p nv kvs (.slice ca (st1).code.length cc) ((st1).to j (st1).code.length nlz) cv2 w')) rfl (by rfl)
                focus (go_simp; (first | done | exact rfl | exact ⟨rfl, rfl⟩))
                focus (refine (to_any HWd.out.again j _ nlz HTK.out HTL.out).mono ?_; rintro e w' ⟨rfl, hA⟩; exact ⟨_, rfl, rfl, hA⟩)
                rintro v w5 ⟨rfl, cv2, hA⟩; have hN1 := HWd.out.trans hA; have kN5 := hA.upd.heap kNd (tok_wr HWd.out kNd); have HOW5 := Lib.hid (ownsRow_upd HOWd.out hA.upd (fun g hg e => e.elim (HWd.out.intne HOWd.out hg).1 (HWd.out.intne HOWd.out hg).2)); refine ⟨(fun e => by cases e), ?_⟩
                (try simp only [Act.put, zzT, zzO, zzS])
                refine seq_nil ?_
                go_wp2
                go_roundg (gk - 1)
                case measure => omega
                case rel => exact ⟨i + 1, _, _, by go_num, by omega, HE2, hN1, HTO.out.1.ok, HIN.out.up HTO.out.1.grow, kN5, HOW5.out⟩
              · have hE2 := hE.out
                rw [List.drop_of_length_le (by omega)] at hE2
                have HE2 : Hid (st1 = st2) := Lib.hid hE2
                have gi : ¬ (i : Int) < (lB.length : Int) := by omega
                clear hE hE2
                go_wp2
                first | go_end0 | go_ret
                exact ⟨rfl, _, by rw [← HE2.out]; exact HW.out⟩
    · have e := HQ.out
      rw [if_pos hlg] at e
      have HE := Lib.hid (Option.some.inj e)
      simp only [hlg] at c0
      clear e hlg HQ
      go_wp2
      first | go_end0 | go_ret
      exact ⟨rfl, _, by rw [← HE.out]; exact HW.out⟩
end Go.Proofs.Ytigbfgmgdfnhcaa
