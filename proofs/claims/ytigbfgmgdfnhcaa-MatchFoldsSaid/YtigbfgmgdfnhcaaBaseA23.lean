/- Lemmas that the law's proof stands on, part 23: WrE. No condition. -/
import Derived.Test.YtigbfgmgdfnhcaaBaseA0
import Derived.Test.YtigbfgmgdfnhcaaBaseA22
set_option linter.all false
set_option linter.unusedVariables false
set_option linter.unusedSimpArgs false
namespace Go.Proofs.Ytigbfgmgdfnhcaa
open Go.RowKit
theorem codeC_putx : ∀ (code : List InstD) (k : Nat) (x : Int), k < code.length → codeC (code.set k { code.getD k .zero with x := x }) = (codeC code).set (k * 8 + 6) (.int .i64 x)
  | [], k, x, h => by simp at h
  | a :: l, 0, x, _ => by
    simp only [zzO, List.getD_cons_zero, codeC, List.flatMap_cons, instC, Nat.zero_mul, Nat.zero_add, List.cons_append, List.nil_append, zzS]
  | a :: l, k + 1, x, h => by
    have := codeC_putx l k x (by simpa using h)
    simp only [zzS, List.getD_cons_succ, codeC, List.flatMap_cons] at this ⊢
    rw [this, show (k + 1) * 8 + 6 = (k * 8 + 6) + 8 by omega]
    simp only [instC, List.cons_append, List.nil_append, zzS]
theorem own_putx {w w' : World} {B g c n k : Nat} {cur : Array Value} {code : List InstD} {x : Int} (h : w.ownsRow B 63 8 (.slice (some ⟨g, 0, none⟩) n c) n (codeC code)) (hn : code.length = n) (hk : k < n) (hc : w.heap[g]? = some (.cells cur 63 (0, 0)))
    (hc' : w'.heap[g]? = some (.cells (cur.setIfInBounds (k * 8 + 6) (.int .i64 x)) 63 (0, 0))) : w'.ownsRow B 63 8 (.slice (some ⟨g, 0, none⟩) n c) n (codeC (code.set k { code.getD k .zero with x := x })) := by
  refine ⟨?_, ?_⟩
  · rw [codeC_len, List.length_set, hn]
  · rcases h.2 with ⟨hnil, h0⟩ | ⟨g', cap, cur2, hv, hbg, hb, hnc, hcm, hsz, htk⟩
    · cases hnil
    · injection hv with e1 e2 e3
      injection e1 with e1
      injection e1 with e1
      subst e1 e3
      rw [hb] at hc
      injection hc with hc
      injection hc with hc
      subst hc
      refine .inr ⟨g, c, _, rfl, hbg, hc', hnc, hcm, by simpa using hsz, ?_⟩
      rw [codeC_putx _ _ _ (by omega), ← htk, Array.toList_setIfInBounds, List.take_set]
theorem altL_long {rec : Nat → WrD → Option WrD} {st : WrD} {l : List Nat} (ks : List Nat) (h : st.long = true) : altL rec ks st l = some (st, l) := by
  match ks with
  | [] => rfl
  | [k] => unfold altL; rw [if_pos h]
  | a :: b :: ks => unfold altL; rw [if_pos h]
theorem altL_last {rec : Nat → WrD → Option WrD} {st : WrD} {l : List Nat} {k : Nat} {q : WrD × List Nat} (h : st.long = false) (hq : altL rec [k] st l = some q) : ∃ s, rec k st = some s ∧ q = (s, l) := by
  unfold altL at hq
  rw [if_neg (by rw [h]; decide)] at hq
  split at hq
  · cases hq
  · rename_i s hs
    exact ⟨s, hs, (Option.some.inj hq).symm⟩
theorem altL_on {rec : Nat → WrD → Option WrD} {st : WrD} {l : List Nat} {k : Nat} {ks : List Nat} {q : WrD × List Nat} (h : st.long = false) (hn : ks ≠ []) (hq : altL rec (k :: ks) st l = some q) : ∃ s, rec k (st.lay { op := 4 }).2 = some s ∧ altL rec ks ((s.lay { op := 5 }).2.to (st.lay { op := 4 }).1 (s.lay { op := 5 }).2.code.length false) (l ++ [(s.lay { op := 5 }).1]) = some q := by
  match ks, hn with
  | k2 :: ks, _ =>
    unfold altL at hq
    rw [if_neg (by rw [h]; decide)] at hq
    split at hq
    · cases hq
    · rename_i s hs
      exact ⟨s, hs, hq⟩
set_option maxRecDepth 100000 in
set_option maxHeartbeats 8000000 in
theorem altW_any {W : World} {B wb : Nat} {p : PatD} {nv : Value} {kvs : List Value} {cv0 : Value} {st : WrD} {cv : Value} {w : World} (h : Wr W B wb p nv kvs cv0 st cv w) (rec : Nat → WrD → Option WrD) (hrec : RecW p rec) (hrs : RecS rec) (hok : WOk st)
    (ki : Nat) (hki : ki < p.nodes.length) (ks : List Nat) (hn : (p.nodes.getD ki .zero).kids = ks) (hkl : ks.length ≤ 1000) (hkid : ∀ j, j ∈ ks → j < p.nodes.length) (na : Option Addr) (nc : Nat) (hkv : kvs.getD ki undef = .slice na ks.length nc) (st2 : WrD) (hq : st.alt rec ks = some st2) :
    Calls Try.prog 65 #[.pointer (some ⟨wb, 0, none⟩), .slice na ks.length nc] w (WrPost W B wb p nv kvs cv0 (.tuple #[]) st2) := by
  unfold WrD.alt at hq
  obtain ⟨sB, lB, hA, hq2⟩ : ∃ sB lB, altL rec ks st [] = some (sB, lB) ∧ sB.outs lB = st2 := by
    split at hq
    · cases hq
    · rename_i s l hs
      exact ⟨s, l, hs, Option.some.inj hq⟩
  have HW0 := Lib.hid h
  have HREC := Lib.hid hrec
  have HRS := Lib.hid hrs
  have HA := Lib.hid hA
  have HE := Lib.hid hq2
  have HOK0 := Lib.hid hok
  have HKID := Lib.hid hkid
  obtain ⟨hb1, hb2, hb3⟩ := WStp.altL hrs _ _ _ _ _ hok (fun k hk => by simp at hk) hA
  have HB1 := Lib.hid hb1
  have HB2 := Lib.hid hb2
  have hlb : lB.length ≤ 1000 := by simp at hb3; omega
  have hkc : ∀ w, PatAt w nv kvs p.nodes → ∀ i (hi : i < ks.length), ∃ b o, na = some ⟨b, o, none⟩ ∧ w.cell? ⟨b, o + i, none⟩ = some (.int .i64 ((ks[i] : Nat) : Int)) := by
    intro w hp i hi
    obtain ⟨b, o, h1, h2⟩ := kid_cell hp ki hki hkv i (by rw [hn]; exact hi)
    rw [hn, List.getD_eq_getElem?_getD, List.getElem?_eq_getElem hi] at h2
    exact ⟨b, o, h1, h2⟩
  have HKC := Lib.hid hkc
  obtain ⟨i0, hi, hz0, hz1', hz2⟩ := info_parts info_int
  clear h hq hA hq2 hrec hrs hok hkv hn hkc hkid hb1 hb2 hb3
  go_enter Try.func65, Try.ntmps65
  go_upto_block 0 with fail
  go_simp
  go_cut [4] (fun lv w' => ∃ cv1, Wr W B wb p nv kvs cv0 sB cv1 w' ∧ w'.ownsRow W.heap.size 3 1 lv lB.length (lB.map fun k => Value.int .i64 ((k : Nat) : Int)))
  case first =>
    go_wp2_with fail
    go_loopg [4, 5] ks.length (fun gk lv iv wr => ∃ (i : Nat) (st1 : WrD) (cv1 : Value) (l1 : List Nat), iv = .int .i64 (i : Nat) ∧ i + gk = ks.length ∧ Hid (altL rec (ks.drop i) st1 l1 = some (sB, lB)) ∧ Wr W B wb p nv kvs cv0 st1 cv1 wr ∧ WOk st1 ∧ wr.ownsRow W.heap.size 3 1 lv l1.length (l1.map fun k => Value.int .i64 ((k : Nat) : Int)) ∧ l1.length = i)
    case atStart => exact ⟨0, st, _, [], rfl, by omega, HA, HW0.out, HOK0.out, ⟨rfl, .inl ⟨rfl, rfl⟩⟩, rfl⟩
    case round =>
      clear HW0 HOK0 HA HB1 HB2 HE
      obtain ⟨i, st1, cv1, l1, rfl, hi2, hE, hW1, hok1, hown, hl1⟩ := hrel
      obtain ⟨lv, rfl⟩ : ∃ lv, lv = u4 := ⟨_, rfl⟩
      obtain ⟨w, rfl⟩ : ∃ w, w = wr := ⟨_, rfl⟩
      have HW := Lib.hid hW1
      have HOK := Lib.hid hok1
      have k0 := hW1.blk
      have hU0 := Upd.refl (fun k => w.heap.size ≤ k) w
      have hz := Nat.le_refl w.heap.size
      have HOW := Lib.hid hown
      have hkcw := HKC.out w hW1.pat
      clear hW1 hok1 hown
      have c0 := cells_of k0; (try simp only [wrC, instC, nodeC, patC, zzT, zzO, zzS] at c0); have f0 := frees_of k0
      cases hlg : st1.long
      · simp only [hlg] at c0
        by_cases hlt : i < ks.length
        · obtain ⟨b0, o0, rfl, ck⟩ := hkcw i hlt
          obtain ⟨kd, hkd0⟩ : ∃ kd, ks[i] = kd := ⟨_, rfl⟩
          rw [hkd0] at ck
          have HKC1 := Lib.hid (fun (w : World) (hp : PatAt w nv kvs p.nodes) => show w.cell? ⟨b0, o0 + i, none⟩ = some (.int .i64 (kd : Nat)) by
            obtain ⟨b2, o2, e, hc⟩ := HKC.out w hp i hlt
            injection e with e
            injection e with e1 e2
            rw [e1, e2, hc, hkd0])
          have hkd := HKID.out kd (by rw [← hkd0]; exact List.getElem_mem hlt)
          have gi : (i : Int) < (ks.length : Int) := by omega
          have gi0 : (0 : Int) ≤ (i : Int) := by omega
          have hE2 := hE.out
          rw [List.drop_eq_getElem_cons hlt, hkd0] at hE2
          clear hkcw hE
          by_cases hla : i + 1 = ks.length
          · rw [List.drop_of_length_le (by omega)] at hE2
            obtain ⟨s, hs, e⟩ := altL_last hlg hE2
            rw [Prod.mk.injEq] at e
            obtain ⟨rfl, rfl⟩ := e
            have HS := Lib.hid hs
            have HOKN := HOK
            have hls : ((i : Int) == (ks.length : Int) - 1) = true := by rw [beq_iff_eq]; omega
            clear hs hE2 hlg hkd0
            go_wp2_with (first
              | (go_at_call 45; refine (HREC.out _ B wb nv kvs _ _ _ _ kd sB (HW.out.newer hU0).again HOKN.out hkd HS.out).mono ?_; rintro e w ⟨rfl, cv1, hA⟩; have HOW2 := Lib.hid (ownsRow_upd HOW.out hA.upd (fun g hg e => e.elim (HW.out.intne HOW.out hg).1 (HW.out.intne HOW.out hg).2)); have hN1 := (HW.out.newer hU0).trans hA; clear hA; clear HW hU0 hz k0 c0 f0; have HW := Lib.hid hN1; clear hN1; have k0 := HW.out.blk; have hU0 := Upd.refl (fun k => w.heap.size ≤ k) w; have hz := Nat.le_refl w.heap.size; have c0 := cells_of k0; (try simp only [wrC, instC, nodeC, patC, zzT, zzO, zzS] at c0); have f0 := frees_of k0))
            go_meet
            exact ⟨_, HW.out, HOW2.out⟩
          · obtain ⟨s, hs, hs2⟩ := altL_on hlg (fun e => hla (by have := congrArg List.length e; simp at this; omega)) hE2
            have HS := Lib.hid hs
            have HS2 := Lib.hid hs2
            have hls : ((i : Int) == (ks.length : Int) - 1) = false := by rw [beq_eq_false_iff_ne]; omega
            have g1 := WStp.lay HOK.out { op := 4 }
            have HOKN := Lib.hid g1.1.ok
            have g2 := HRS.out kd _ s g1.1.ok hs
            have g3 := WStp.lay g2.ok { op := 5 }
            have HG2 := Lib.hid g2
            have HG3 := Lib.hid g3
            have HTK := Lib.hid (Nat.lt_of_lt_of_le g1.2.1 (Nat.le_trans g2.grow g3.1.grow))
            have HG4 := Lib.hid (WStp.to g3.1.ok (st1.lay { op := 4 }).1 (s.lay { op := 5 }).2.code.length false)
            clear hs hs2 hE2 hlg hkd0 g1 g2 g3
            go_wp2_with (first
              | (go_at_call 46; refine (lay_any (HW.out.newer hU0).again { op := 4 } HOK.out.len).mono ?_; rintro e w ⟨rfl, cv1, hA⟩; have HOW1 := Lib.hid (ownsRow_upd HOW.out hA.upd (fun g hg e => e.elim (HW.out.intne HOW.out hg).1 (HW.out.intne HOW.out hg).2)); have ck := HKC1.out _ hA.pat; have hN1 := (HW.out.newer hU0).trans hA; clear hA; clear HW hU0 hz k0 c0 f0; have HW := Lib.hid hN1; clear hN1; have k0 := HW.out.blk; have hU0 := Upd.refl (fun k => w.heap.size ≤ k) w; have hz := Nat.le_refl w.heap.size; have c0 := cells_of k0; (try simp only [wrC, instC, nodeC, patC, zzT, zzO, zzS] at c0); have f0 := frees_of k0)
              | (go_at_call 45; refine (HREC.out _ B wb nv kvs _ _ _ _ kd s (HW.out.newer hU0).again HOKN.out hkd HS.out).mono ?_; rintro e w ⟨rfl, cv1, hA⟩; have HOW1b := Lib.hid (ownsRow_upd HOW1.out hA.upd (fun g hg e => e.elim (HW.out.intne HOW1.out hg).1 (HW.out.intne HOW1.out hg).2)); have hN1 := (HW.out.newer hU0).trans hA; clear hA; clear HW hU0 hz k0 c0 f0; have HW := Lib.hid hN1; clear hN1; have k0 := HW.out.blk; have hU0 := Upd.refl (fun k => w.heap.size ≤ k) w; have hz := Nat.le_refl w.heap.size; have c0 := cells_of k0; (try simp only [wrC, instC, nodeC, patC, zzT, zzO, zzS] at c0); have f0 := frees_of k0)
              | (go_at_call 46; refine (lay_any (HW.out.newer hU0).again { op := 5 } HG2.out.ok.len).mono ?_; rintro e w ⟨rfl, cv1, hA⟩; have HOW2 := Lib.hid (ownsRow_upd HOW1b.out hA.upd (fun g hg e => e.elim (HW.out.intne HOW1b.out hg).1 (HW.out.intne HOW1b.out hg).2)); have hN1 := (HW.out.newer hU0).trans hA; clear hA; clear HW hU0 hz k0 c0 f0; have HW := Lib.hid hN1; clear hN1; have k0 := HW.out.blk; have hU0 := Upd.refl (fun k => w.heap.size ≤ k) w; have hz := Nat.le_refl w.heap.size; have c0 := cells_of k0; (try simp only [wrC, instC, nodeC, patC, zzT, zzO, zzS] at c0); have f0 := frees_of k0)
              | (at_builtin
                 have hUa := hU0.alloc (.cells #[.int .i64 ((s.lay { op := 5 }).1 : Nat)] 3)
                 have hB1 := HW.out.newer hUa
                 have hO1 := ownsRow_upd HOW2.out hUa (fun g hg => by have := (HOW2.out.lt g hg).2; omega)
                 have hc1 := cell_one_at (w := w) (n := w.heap.size) (Value.int .i64 ((s.lay { op := 5 }).1 : Nat)) 3 rfl
                 have hz1 : (w.alloc (.cells #[.int .i64 ((s.lay { op := 5 }).1 : Nat)] 3)).heap.size = w.heap.size + 1 := by simp
                 have hW1 := HW.out.upd.size
                 have HB1 := Lib.hid hB1
                 have HO1 := Lib.hid hO1
                 clear hB1 hO1 c0 f0
                 refine wpList_append_own2 _ rfl _ _ 51 rfl _ 3 i0 (.int .i64 0) 1 8 Try.underlying51 hi hz0 hz1' hz2 rfl (by decide) lv _ _ rfl HO1.out ⟨w.heap.size, 0, none⟩ 1 1 [.int .i64 ((s.lay { op := 5 }).1 : Nat)] rfl rfl hc1 (by simp [Value.oneCell']) (by unfold maxLen; omega) (by omega) (by omega) ?_
                 intro v3 w ho3 hg3 hn3
                 have hU3 := (Upd.refl (fun j => lv.ownBlock = some j) _).grown hg3 (fun j _ e => e)
                 have hN1 := HB1.out.other hU3 (fun j e => ⟨(HO1.out.lt j e).1, HB1.out.intne HO1.out e⟩)
                 have HOW3 := Lib.hid ho3
                 clear ho3 hg3 hn3 hU3 hc1 hUa hz1 HW hU0 hz k0
                 have HW := Lib.hid hN1
                 clear hN1
                 obtain ⟨ca, cc, hcv⟩ := HW.out.cform
                 subst hcv
                 have k0 := HW.out.blk
                 have hU0 := Upd.refl (fun k => w.heap.size ≤ k) w
                 have hz := Nat.le_refl w.heap.size
                 have c0 := cells_of k0; (try simp only [wrC, instC, nodeC, patC, zzT, zzO, zzS] at c0); have f0 := frees_of k0)
              | (go_at_call 83; refine (to_any (HW.out.newer hU0).again (st1.lay { op := 4 }).1 _ false HTK.out HG3.out.1.ok.len).mono ?_; rintro e w ⟨rfl, cv1, hA⟩; have HOW4 := Lib.hid (ownsRow_upd HOW3.out hA.upd (fun g hg e => e.elim (HW.out.intne HOW3.out hg).1 (HW.out.intne HOW3.out hg).2)); have hN1 := (HW.out.newer hU0).trans hA; clear hA; clear HW hU0 hz k0 c0 f0; have HW := Lib.hid hN1; clear hN1; have k0 := HW.out.blk; have hU0 := Upd.refl (fun k => w.heap.size ≤ k) w; have hz := Nat.le_refl w.heap.size; have c0 := cells_of k0; (try simp only [wrC, instC, nodeC, patC, zzT, zzO, zzS] at c0); have f0 := frees_of k0))
            go_roundg (gk - 1)
            case measure => omega
            case rel => exact ⟨i + 1, _, _, l1 ++ [(s.lay { op := 5 }).1], by go_num, by omega, HS2, HW.out, HG4.out.1.ok, by simpa using HOW4.out, by simp [hl1]⟩
        · have hE2 := hE.out
          rw [List.drop_of_length_le (by omega)] at hE2
          unfold altL at hE2
          have e := Option.some.inj hE2
          rw [Prod.mk.injEq] at e
          obtain ⟨rfl, rfl⟩ := e
          have gi : ¬ (i : Int) < (ks.length : Int) := by omega
          clear hE2 hE hlg
          go_wp2
          go_meet
          exact ⟨_, HW.out, HOW.out⟩
      · have e := hE.out
        rw [altL_long _ hlg] at e
        have e := Option.some.inj e
        rw [Prod.mk.injEq] at e
        obtain ⟨rfl, rfl⟩ := e
        simp only [hlg] at c0
        clear hE hlg hkcw
        go_wp2
        all_goals
          go_meet
          exact ⟨_, HW.out, HOW.out⟩
  case rest =>
    clear HW0 HA HOK0
    obtain ⟨cv1, hW1, hown⟩ := hcut
    obtain ⟨lv, rfl⟩ : ∃ lv, lv = u4 := ⟨_, rfl⟩
    have HOW0 := Lib.hid hown
    have HW0 := Lib.hid hW1
    obtain ⟨la, lc, rfl⟩ := slice_n hown
    clear hown hW1
    go_wp2_with fail
    go_loopg [7] lB.length (fun gk iv wr => ∃ (i : Nat) (st1 : WrD) (cv1 : Value), iv = .int .i64 (i : Nat) ∧ i + gk = lB.length ∧ Hid (st1.outs (lB.drop i) = st2) ∧ Wr W B wb p nv kvs cv0 st1 cv1 wr ∧ WOk st1 ∧ Ins lB st1 ∧ wr.ownsRow W.heap.size 3 1 (.slice la lB.length lc) lB.length (lB.map fun k => Value.int .i64 ((k : Nat) : Int)))
    case atStart => exact ⟨0, sB, _, rfl, by omega, HE, HW0.out, HB1.out.ok, HB2.out, HOW0.out⟩
    case round =>
      clear HW0 HOW0 HB1 HB2 HE
      obtain ⟨i, st1, cv1, rfl, hi2, hE, hW1, hok1, hins, hown⟩ := hrel
      obtain ⟨w, rfl⟩ : ∃ w, w = wr := ⟨_, rfl⟩
      have HW := Lib.hid hW1
      have HOK := Lib.hid hok1
      have HIN := Lib.hid hins
      have hU0 := Upd.refl (fun k => w.heap.size ≤ k) w
      have HOW := Lib.hid hown
      clear hW1 hok1 hown hins
      by_cases hlt : i < lB.length
      · have gi : (i : Int) < (lB.length : Int) := by omega
        have gi0 : (0 : Int) ≤ (i : Int) := by omega
        obtain ⟨j, hj⟩ : ∃ j, lB[i] = j := ⟨_, rfl⟩
        have hE2 := hE.out
        rw [List.drop_eq_getElem_cons hlt, hj] at hE2
        have HE2 : Hid (({ st1 with code := st1.code.set j { st1.code.getD j .zero with x := (st1.code.length : Int) } } : WrD).outs (lB.drop (i + 1)) = st2) := Lib.hid hE2
        have HTK := Lib.hid (HIN.out j (by rw [← hj]; exact List.getElem_mem hlt))
        have HPOS : Hid (0 < st1.code.length) := Lib.hid (by have := HTK.out; omega)
        have HTO : Hid (WOk { st1 with code := st1.code.set j { st1.code.getD j .zero with x := (st1.code.length : Int) } }) := Lib.hid ⟨by simpa using HOK.out.len, fun e => by simpa using HOK.out.rl e, by simpa using HOK.out.r1⟩
        have HCELL := Lib.hid (fun (w : World) (h : w.ownsRow W.heap.size 3 1 (.slice la lB.length lc) lB.length (lB.map fun k => Value.int .i64 ((k : Nat) : Int))) => own_cell h hlt hj)
        clear hE hE2 hj
        obtain ⟨lb, lo, rfl, _⟩ := HCELL.out w HOW.out
        go_wp2
        obtain ⟨cg, cc, cur, hcv, kG, hsz⟩ := own_form8k HW.out.own HPOS.out
        subst hcv
        have HWd := Lib.hid (HW.out.newer hU0.drew)
        obtain ⟨wd, hwd⟩ : ∃ wd, w.drew = wd := ⟨_, rfl⟩
        rw [hwd] at HWd
        have HOWd := Lib.hid (ownsRow_upd HOW.out hU0.drew (fun g hg => by have := (HOW.out.lt g hg).2; omega))
        rw [hwd] at HOWd
        have kGd : wd.heap[cg]? = some (.cells cur 63 (0, 0)) := by rw [← hwd]; exact kG
        have d4 := cell_of HWd.out.blk 4 (v := .slice (some ⟨cg, 0, none⟩) st1.code.length cc) rfl
        have dl : wd.cell? ⟨lb, lo + i, none⟩ = some (.int .i64 (j : Nat)) := by obtain ⟨b2, o2, e, hc⟩ := HCELL.out wd HOWd.out; injection e with e; injection e with e1 e2; rw [e1, e2]; exact hc
        have gj : (j : Int) < (st1.code.length : Int) := by have := HTK.out; omega
        have gj0 : (0 : Int) ≤ (j : Int) := by omega
        have HSZ : Hid (j * 8 + 6 + 1 ≤ cur.size) := Lib.hid (by have := HTK.out; omega)
        refine wp_region_seq (fun v => v = wd) (fun i => i != 15) [(0, true), (1, true), (2, true), (3, true), (4, true), (5, true), (6, true), (7, true), (8, true), (9, true), (10, true), (11, true), (12, true), (13, true), (14, true), (15, false)] (by exact rfl) (by kernel_rfl) (by intro c a d v w h; cases d <;> exact h) ?_
        rw [hwd]; have hS : wd = wd := rfl
        iterate 15 (((apply seq_val2 rfl (by rfl); (focus (intro w' hS'; subst hS'; go_simp; (first | done | exact rfl | (rw [if_pos (by omega)]; done)))); (focus exact hS))); (try simp only [Act.put, zzT, zzO, zzS]))
        refine seq_loud2 rfl (fun K hK => ?_)
        rw [if_pos (by rfl)]; refine wp_store_blk 3 _ _ rfl cg (j * 8 + 6) rfl (.int .i64 (st1.code.length : Nat)) rfl cur (cur.setIfInBounds (j * 8 + 6) (.int .i64 (st1.code.length : Nat))) _ kGd HSZ.out (by kernel_rfl) rfl rfl ?_; intro w5 k5 hu5 hs5; refine hK _ _ (fun e => by cases e) ?_; clear hK K
        (try simp only [Act.put, zzT, zzO, zzS])
        refine seq_nil ?_
        have hne : ¬ wb = cg := fun e => (HWd.out.cvne cg rfl).1 e.symm
        have hN1 := HWd.out.grow (st2 := { st1 with code := st1.code.set j { st1.code.getD j .zero with x := (st1.code.length : Int) } }) (hu5.heap HWd.out.blk hne) (by rw [List.length_set]; exact own_putx HWd.out.own rfl HTK.out kGd k5) (hu5.mono (fun m _ (e : m = cg) => .inr (by rw [e]; rfl))) (fun _ h => .inl h)
        have HOW5 := Lib.hid (ownsRow_upd HOWd.out hu5 (fun g hg (e : g = cg) => (HWd.out.intne HOWd.out hg).2 (by rw [e]; rfl)))
        go_wp2
        go_roundg (gk - 1)
        case measure => omega
        case rel => exact ⟨i + 1, _, _, by go_num, by omega, HE2, hN1, HTO.out, HIN.out.up (by simp), HOW5.out⟩
      · have hE2 := hE.out
        rw [List.drop_of_length_le (by omega)] at hE2
        have HE2 : Hid (st1 = st2) := Lib.hid hE2
        have gi : ¬ (i : Int) < (lB.length : Int) := by omega
        clear hE hE2
        go_wp2
        first | go_end0 | go_ret
        exact ⟨rfl, _, by rw [← HE2.out]; exact HW.out⟩
end Go.Proofs.Ytigbfgmgdfnhcaa
